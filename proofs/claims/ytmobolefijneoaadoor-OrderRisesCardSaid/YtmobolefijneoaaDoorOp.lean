/-
  slices.symMergeCmpFunc, whole.
-/
import Derived.Test.YtmobolefijneoaaDoorOz
import Derived.Deep.CutRange
set_option linter.unusedVariables false
namespace Go.Proofs.YtmobolefijneoaaDoor
open Go.RowKit Go.Joins Go.Deep

theorem SortOn.apart {l t : List JV} {a b x y : Nat} (h : SortOn l x y) (hM : Moved l t a b) (hd : y ≤ a ∨ b ≤ x) : SortOn t x y := fun i k h1 h2 h3 => by
  rw [hM.out i (by omega), hM.out k (by omega)]
  exact h i k h1 h2 h3
/-- The two halves are sorted, each by itself: so the whole is. -/
theorem merge_fin {l t t1 t2 : List JV} {a s mid e b : Nat} (hb : b ≤ l.length) (hM : Moved l t a b) (h1 : a ≤ s) (h2 : s ≤ mid) (h3 : mid ≤ e) (h4 : e ≤ b) (S1 : SortOn t a s) (S2 : SortOn t s mid) (S3 : SortOn t mid e) (S4 : SortOn t e b)
    (X : ∀ p q, a ≤ p → p < mid → mid ≤ q → q < b → leJ (jat t p) (jat t q)) (k1 : Moved t t1 a mid ∧ (a < s ∧ s < mid → SortOn t1 a mid) ∧ (¬ (a < s ∧ s < mid) → t1 = t)) (k2 : Moved t1 t2 mid b ∧ (mid < e ∧ e < b → SortOn t2 mid b) ∧ (¬ (mid < e ∧ e < b) → t2 = t1)) : SortOn t2 a b ∧ Moved l t2 a b := by
  have L1 : SortOn t1 a mid := by
    by_cases h : a < s ∧ s < mid
    · exact k1.2.1 h
    · rw [k1.2.2 h]
      by_cases h5 : s = a
      · rw [← h5]; exact S2
      · have : s = mid := by omega
        rw [← this]; exact S1
  have L2 : SortOn t2 mid b := by
    by_cases h : mid < e ∧ e < b
    · exact k2.2.1 h
    · rw [k2.2.2 h]
      by_cases h5 : e = mid
      · rw [← h5]; exact S4.apart k1.1 (by omega)
      · have : e = b := by omega
        rw [← this]; exact S3.apart k1.1 (by omega)
  have hl := hM.len
  have X1 : ∀ p q, a ≤ p → p < mid → mid ≤ q → q < b → leJ (jat t1 p) (jat t1 q) := fun p q a1 a2 a3 a4 => by
    rw [k1.1.out q (by omega)]
    exact k1.1.all (P := fun x => leJ x (jat t q)) (by omega) (fun p' b1 b2 => X p' q b1 b2 a3 a4) p a1 a2
  have hl1 := k1.1.len
  refine ⟨SortOn.join (L1.apart k2.1 (by omega)) L2 fun p q a1 a2 a3 a4 => ?_, hM.trans ((k1.1.mono (Nat.le_refl _) (by omega)).trans (k2.1.mono (by omega) (Nat.le_refl _)))⟩
  rw [k2.1.out p (by omega)]
  exact k2.1.all (P := fun x => leJ (jat t1 p) x) (by omega) (fun q' b1 b2 => X1 p q' a1 a2 b1 b2) q a3 a4

def MergeCalls (w0 : World) (g a m b L c : Nat) (is : List LV) (w : World) : Prop := ∀ A M B : Int, A = a → M = m → B = b →
    Calls Tryd.prog 53 #[.slice (some ⟨g, 0, none⟩) L c, .int .i64 A, .int .i64 M, .int .i64 B, .func (.func 23) #[] #[]] w (MergeRes w0 g a b L is)

set_option maxHeartbeats 8000000 in
set_option maxRecDepth 100000 in
theorem merge_any (w0 : World) (g L c : Nat) (hc : L ≤ c) (hm : L ≤ 1000) : ∀ (F a m b : Nat) (is : List LV) (w : World), b - a < F → a < m → m < b → b ≤ L → L = is.length → RowIs w0 g is w → SortOn (LV.js is) a m → SortOn (LV.js is) m b → MergeCalls w0 g a m b L c is w := by
  intro F
  induction F with
  | zero => intro a m b is w h; omega
  | succ F ih =>
    intro a m b is w hF ham hmb hb hL hR h1 h2 A M B hA hMI hBI
    by_cases ha1 : m = a + 1
    · exact merge_up w0 w g a m b L c is A M B hA hMI hBI hL hc hm ha1 hmb hb hR h2
    by_cases hb1 : b = m + 1
    · exact merge_down w0 w g a m b L c is A M B hA hMI hBI hL hc hm (by omega) hb1 hb hR h1
    obtain ⟨mid, hmid⟩ : ∃ mid, mid = (a + b) / 2 := ⟨_, rfl⟩
    have hb2 : b ≤ 1000 := by omega
    subst hA hMI hBI
    have IH := Lib.hid ih
    have H1 := Lib.hid h1
    have H2 := Lib.hid h2
    have HLL := Lib.hid hL
    have HMM := Lib.hid hmid
    have HF := Lib.hid hF
    have HBL := Lib.hid hb
    have HMI : Hid (((a : Int) + (b : Int)) / 2 = (mid : Int)) := Lib.hid (by omega)
    have hma : ¬ (m : Int) - (a : Int) = 1 := by omega
    have hmb1 : ¬ (b : Int) - (m : Int) = 1 := by omega
    have hmidb : mid ≤ 1000 := by omega
    obtain ⟨p, hp⟩ : ∃ p, p = mid + m - 1 := ⟨_, rfl⟩
    obtain ⟨n, hn⟩ : ∃ n, n = mid + m := ⟨_, rfl⟩
    have HN : Hid ((mid : Int) + (m : Int) = (n : Int)) := Lib.hid (by omega)
    have HNP : Hid ((n : Int) - 1 = (p : Int)) := Lib.hid (by omega)
    have HPP := Lib.hid (show p = mid + m - 1 ∧ n = mid + m from ⟨hp, hn⟩)
    have hnb : n ≤ 2000 := by omega
    have hn1 : 1 ≤ n := by omega
    obtain ⟨lo, hlo⟩ : ∃ lo, lo = if mid < m then mid + m - b else a := ⟨_, rfl⟩
    obtain ⟨hi, hhi⟩ : ∃ hi, hi = if mid < m then mid else m := ⟨_, rfl⟩
    have HLO := Lib.hid (show lo = (if mid < m then mid + m - b else a) ∧ hi = (if mid < m then mid else m) from ⟨hlo, hhi⟩)
    have HBD : Hid (lo ≤ hi ∧ hi ≤ m ∧ (∀ h, lo ≤ h → h < hi → h < L ∧ h ≤ p ∧ p - h < L)) := Lib.hid (by
      by_cases hmm : mid < m
      · rw [if_pos hmm] at hlo hhi
        exact ⟨by omega, by omega, fun h x y => ⟨by omega, by omega, by omega⟩⟩
      · rw [if_neg hmm] at hlo hhi
        exact ⟨by omega, by omega, fun h x y => ⟨by omega, by omega, by omega⟩⟩)
    clear h1 h2 hF hb ih hmid hp hn hlo hhi ha1 hb1 hL
    go_enter Tryd.func53, Tryd.ntmps53
    go_upto_region 25 with fail
    rw [HMI.out]
    go_upto_region 26 with fail
    rw [HN.out]
    go_upto_if 140 with fail
    go_cut [20, 21] (fun s20 s21 wx => s20 = .int .i64 lo ∧ s21 = .int .i64 hi ∧ wx = w)
    case first =>
      as_aux_lemma =>
        have hpp := HPP.out
        obtain ⟨e1, e2⟩ := HLO.out
        by_cases hmm : mid < m
        · have hmI : (mid : Int) < (m : Int) := by omega
          rw [if_pos hmm] at e1 e2
          have E1 := Lib.hid e1
          have E2 := Lib.hid e2
          have E3 := Lib.hid hpp
          clear e1 e2 hpp
          go_wp2
          go_meet
          have e1 := E1.out; have e2 := E2.out; have e3 := E3.out; have e4 := HMM.out
          exact ⟨by congr 1; omega, by congr 1; omega, rfl⟩
        · have hmI : ¬ (mid : Int) < (m : Int) := by omega
          rw [if_neg hmm] at e1 e2
          have E1 := Lib.hid e1
          have E2 := Lib.hid e2
          clear e1 e2 hpp
          go_wp2
          go_meet
          have e1 := E1.out; have e2 := E2.out
          exact ⟨by congr 1; omega, by congr 1; omega, rfl⟩
    case rest =>
    obtain ⟨rfl, rfl, rfl⟩ := hcut
    have hpb : p ≤ 2000 := by have := HPP.out; omega
    have hhib : hi ≤ m := HBD.out.2.1
    have hlh : lo ≤ hi := HBD.out.1
    go_wp2
    rw [HNP.out]
    go_loopw [20, 21] (fun vi vj wr => ∃ s r : Nat, vi = .int .i64 s ∧ vj = .int .i64 r ∧ s ≤ r ∧ r ≤ hi ∧ lo ≤ s ∧ RowIs w0 g is wr ∧ Hid (SrchAt (LV.js is) p lo hi s r)) (fun vi vj _ => (RowKit.intOf vj - RowKit.intOf vi).toNat)
    case atStart => exact ⟨lo, hi, rfl, rfl, hlh, Nat.le_refl _, Nat.le_refl _, hR, Lib.hid (SrchAt.start _ _ hlh)⟩
    case round =>
      clear hR
      obtain ⟨s, r, rfl, rfl, hsr, hrh, hls, hRr, HS⟩ := hrel
      by_cases hlt : s < r
      · have hltI : (s : Int) < (r : Int) := by omega
        as_aux_lemma =>
          obtain ⟨h, hh⟩ : ∃ h : Nat, h = (s + r) / 2 := ⟨_, rfl⟩
          have HMI2 : Hid (((s : Int) + (r : Int)) / 2 = (h : Int)) := Lib.hid (by omega)
          have HMH : Hid (s ≤ h ∧ h < r) := Lib.hid (by omega)
          obtain ⟨b1, b2, b3⟩ := HBD.out.2.2 h (by omega) (by omega)
          obtain ⟨q, hq⟩ : ∃ q, q = p - h := ⟨_, rfl⟩
          have hqw : IntKind.i64.wrap ((p : Int) - (h : Int)) = (q : Int) := by rw [IntKind.wrap_i64]; omega
          have hLis := HLL.out
          have hpl : q < is.length := by omega
          have hrl : h < is.length := by omega
          have hqI : (q : Int) < (L : Int) := by omega
          have hhI : (h : Int) < (L : Int) := by omega
          have hq0 : (0 : Int) ≤ (q : Int) := by omega
          have hh0 : (0 : Int) ≤ (h : Int) := by omega
          have HQ := Lib.hid hq
          clear hh b1 b2 b3 hq
          obtain ⟨D, hD⟩ : ∃ D, cmpJ (jat (LV.js is) q) (jat (LV.js is) h) = D := ⟨_, rfl⟩
          have HCMP0 := Lib.hid (fun w' (hw' : Below wr.heap.size wr w') => hRr.cmp hpl hrl w' hw')
          obtain ⟨x, hx⟩ : ∃ x, nth is q = x := ⟨_, rfl⟩
          obtain ⟨y, hy⟩ : ∃ y, nth is h = y := ⟨_, rfl⟩
          rw [hD, hx, hy] at HCMP0
          obtain ⟨k1, n1, s1, An1, ns1, cn1, Ai1, is1, ci1⟩ := x
          obtain ⟨k2, n2, s2, An2, ns2, cn2, Ai2, is2, ci2⟩ := y
          have HCMP : Hid (∀ w', Below wr.heap.size wr w' → Calls Tryd.prog 23 #[.agg #[.int .i64 k1, .int .i64 n1, .string s1, .slice An1 ns1.length cn1, .slice Ai1 is1.length ci1], .agg #[.int .i64 k2, .int .i64 n2, .string s2, .slice An2 ns2.length cn2, .slice Ai2 is2.length ci2]] w' fun e w'' => e = .returned (.int .i64 D) ∧ Below w'.heap.size w' w'') := HCMP0
          have HF : Hid (∀ w', Below wr.heap.size wr w' → _) := Lib.hid fun w' hw' => (hRr.below hw').five hpl (by rw [hx]; rfl)
          have HG : Hid (∀ w', Below wr.heap.size wr w' → _) := Lib.hid fun w' hw' => (hRr.below hw').five hrl (by rw [hy]; rfl)
          have HD := Lib.hid hD
          have HRR := Lib.hid hRr
          clear hpl hrl hLis hx hy hD HCMP0 hRr
          by_cases hD0 : D < 0
          · have hDb : decide (D < 0) = true := decide_eq_true hD0
            go_wp2_with fail
            rw [HMI2.out]
            refine region_calm (by kernel_rfl) (by kernel_rfl) ?_
            repeat (first
              | go_big_quiet_skip
              | (go_big_quiet_want
                 apply quiet_at
                 · intro w' hw'
                   (obtain ⟨⟨c0, c1, c2, c3, c4⟩, f0, f1, f2, f3, f4⟩ := HF.out _ (by assumption); obtain ⟨⟨d0, d1, d2, d3, d4⟩, g0, g1, g2, g3, g4⟩ := HG.out _ (by assumption))
                   go_simp
                   first
                     | done
                     | exact rfl
                     | ((go_at_call 23; refine (HCMP.out _ (by assumption)).mono ?_; rintro e w9 ⟨h1, h2⟩; exact ⟨h1, Below.trans (by assumption) (h2.mono (Below.size (by assumption)))⟩))
                 (try simp only [Act.put, List.setIfInBounds_toArray, List.set_cons_zero, List.set_cons_succ])
                 go_big_quiet_on))
            refine wpQuiet_nil ?_
            intro w5 hb5
            have hb5a : Below wr.heap.size wr w5 := hb5
            have HRN := Lib.hid (HRR.out.below hb5a)
            clear hb5 hb5a
            go_wp2
            go_roundw
            case measure => have := HMH.out; simp [RowKit.intOf]; omega
            case rel => exact ⟨s, h, rfl, rfl, by have := HMH.out; omega, by have := HMH.out; omega, hls, HRN.out, Lib.hid (HS.out.down (by have := HMH.out; omega) (by have := HMH.out; omega) (by rw [← HQ.out, HD.out]; exact hD0))⟩
          · have hDb : decide (D < 0) = false := decide_eq_false hD0
            go_wp2_with fail
            rw [HMI2.out]
            refine region_calm (by kernel_rfl) (by kernel_rfl) ?_
            repeat (first
              | go_big_quiet_skip
              | (go_big_quiet_want
                 apply quiet_at
                 · intro w' hw'
                   (obtain ⟨⟨c0, c1, c2, c3, c4⟩, f0, f1, f2, f3, f4⟩ := HF.out _ (by assumption); obtain ⟨⟨d0, d1, d2, d3, d4⟩, g0, g1, g2, g3, g4⟩ := HG.out _ (by assumption))
                   go_simp
                   first
                     | done
                     | exact rfl
                     | ((go_at_call 23; refine (HCMP.out _ (by assumption)).mono ?_; rintro e w9 ⟨h1, h2⟩; exact ⟨h1, Below.trans (by assumption) (h2.mono (Below.size (by assumption)))⟩))
                 (try simp only [Act.put, List.setIfInBounds_toArray, List.set_cons_zero, List.set_cons_succ])
                 go_big_quiet_on))
            refine wpQuiet_nil ?_
            intro w5 hb5
            have hb5a : Below wr.heap.size wr w5 := hb5
            have HRN := Lib.hid (HRR.out.below hb5a)
            clear hb5 hb5a
            go_wp2
            go_roundw
            case measure => have := HMH.out; simp [RowKit.intOf]; omega
            case rel => exact ⟨h + 1, r, by go_num, rfl, by have := HMH.out; omega, hrh, by have := HMH.out; omega, HRN.out, Lib.hid (HS.out.up (by have := HMH.out; omega) (by have := HMH.out; omega) (by rw [← HQ.out, HD.out]; omega))⟩
      · obtain rfl : s = r := by omega
        obtain ⟨e, he⟩ : ∃ e, e = n - s := ⟨_, rfl⟩
        have HE : Hid ((n : Int) - (s : Int) = (e : Int)) := Lib.hid (by have := HPP.out; omega)
        have HB2 : Hid (a ≤ s ∧ s ≤ m ∧ m ≤ e ∧ e ≤ b ∧ s ≤ mid ∧ mid ≤ e ∧ e = mid + m - s) := Lib.hid (by
          have h3 := HPP.out
          have h4 := HMM.out
          obtain ⟨e1, e2⟩ := HLO.out
          by_cases hmm : mid < m
          · rw [if_pos hmm] at e1 e2; omega
          · rw [if_neg hmm] at e1 e2; omega)
        clear he hsr hrh hls hhib hlh
        have hee : e ≤ 1000 := by have := HB2.out; omega
        go_upto_region 39 with fail
        rw [HE.out, show wrap64 (e : Int) = (e : Int) from by unfold wrap64; omega]
        go_cut [185] (fun s185 wx => (∃ v : Bool, s185 = .bool v ∧ (v = true ↔ (s < m ∧ m < e))) ∧ wx = wr)
        case first =>
          as_aux_lemma =>
            by_cases x1 : s < m
            · by_cases x2 : m < e
              · have x1I : (s : Int) < (m : Int) := by omega
                have x2I : (m : Int) < (e : Int) := by omega
                go_wp2
                go_meet
                exact ⟨⟨true, rfl, by simp [x1, x2]⟩, rfl⟩
              · have x1I : (s : Int) < (m : Int) := by omega
                have x2I : ¬ (m : Int) < (e : Int) := by omega
                go_wp2
                go_meet
                exact ⟨⟨false, rfl, by simp [x2]⟩, rfl⟩
            · have x1I : ¬ (s : Int) < (m : Int) := by omega
              go_wp2
              go_meet
              exact ⟨⟨false, rfl, by simp [x1]⟩, rfl⟩
        case rest =>
        obtain ⟨⟨v, rfl, hv⟩, rfl⟩ := hcut
        have HV := Lib.hid hv
        clear hv
        go_upto_if 185 with fail
        go_cut [24] (fun s24 wx => s24 = .int .i64 e ∧ ∃ it, RowIs w0 g it wx ∧ it.length = L ∧ RotIs (LV.js is) (LV.js it) s m e ∧ Moved (LV.js is) (LV.js it) a b)
        case first =>
          as_aux_lemma =>
            obtain ⟨b1, b2, b3, b4, b5, b6, b7⟩ := HB2.out
            cases v with
            | true =>
              obtain ⟨x1, x2⟩ := HV.out.1 rfl
              have HE4 := Lib.hid b4
              have HA1 := Lib.hid b1
              clear b1 b2 b3 b4 b5 b6 b7
              go_wp2_with fail
              refine (rotate_any w0 _ g s m e L c is _ _ _ _ rfl rfl rfl HLL.out hc hm x1 x2 (by have := HE4.out; have := HBL.out; omega) hRr).mono ?_
              rintro ee w1 ⟨rfl, it, k1, k2, k3, k4⟩
              have K3 := Lib.hid k3
              have K4 := Lib.hid (k4.mono HA1.out HE4.out)
              clear k3 k4
              go_wp2
              go_meet
              exact ⟨rfl, it, k1, k2, K3.out, K4.out⟩
            | false =>
              have hno : ¬ (s < m ∧ m < e) := fun h => by have := HV.out.2 h; cases this
              have HR := Lib.hid (RotIs.same (LV.js is) (s := s) (m := m) (e := e) (by omega))
              have HL2 := HLL
              clear b1 b2 b3 b4 b5 b6 b7 hno
              go_wp2
              go_meet
              exact ⟨rfl, is, hRr, HL2.out.symm, HR.out, Moved.refl _ _ _⟩
        case rest =>
        obtain ⟨rfl, t, hRt, hLt, hRot, hMt⟩ := hcut
        have MP := Lib.hid (merge_plain ham hmb HMM.out H1.out H2.out HB2.out.2.2.2.2.2.2 (by have hS := HS.out; rw [HLO.out.1, HLO.out.2, HPP.out.1] at hS; exact hS) hRot)
        have HMt := Lib.hid hMt
        have HLt := Lib.hid hLt
        clear hRot hMt hLt hRr
        go_upto_region 41 with fail
        go_cut [199] (fun s199 wx => (∃ v : Bool, s199 = .bool v ∧ (v = true ↔ (a < s ∧ s < mid))) ∧ wx = wc)
        case first =>
          as_aux_lemma =>
            by_cases x1 : a < s
            · by_cases x2 : s < mid
              · have x1I : (a : Int) < (s : Int) := by omega
                have x2I : (s : Int) < (mid : Int) := by omega
                go_wp2
                go_meet
                exact ⟨⟨true, rfl, by simp [x1, x2]⟩, rfl⟩
              · have x1I : (a : Int) < (s : Int) := by omega
                have x2I : ¬ (s : Int) < (mid : Int) := by omega
                go_wp2
                go_meet
                exact ⟨⟨false, rfl, by simp [x2]⟩, rfl⟩
            · have x1I : ¬ (a : Int) < (s : Int) := by omega
              go_wp2
              go_meet
              exact ⟨⟨false, rfl, by simp [x1]⟩, rfl⟩
        case rest =>
        obtain ⟨⟨v2, rfl, hv2⟩, rfl⟩ := hcut
        have HV2 := Lib.hid hv2
        clear hv2
        go_upto_if 199 with fail
        go_cut [24] (fun s24 wx => s24 = .int .i64 e ∧ ∃ t1, RowIs w0 g t1 wx ∧ t1.length = L ∧ Moved (LV.js t) (LV.js t1) a mid ∧ (a < s ∧ s < mid → SortOn (LV.js t1) a mid) ∧ (¬ (a < s ∧ s < mid) → LV.js t1 = LV.js t))
        case first =>
          as_aux_lemma =>
            cases v2 with
            | true =>
              have hx := HV2.out.1 rfl
              have HX := Lib.hid hx
              clear hx
              go_wp2_with fail
              refine (IH.out a s mid t _ (by have := HX.out; have := HMM.out; have := HF.out; omega) HX.out.1 HX.out.2 (by have := HMM.out; have := HBL.out; omega) HLt.out.symm hRt MP.out.2.2.2.2.2.2.1 MP.out.2.2.2.2.2.2.2.1 _ _ _ rfl rfl rfl).mono ?_
              rintro ee w1 ⟨rfl, t1, k1, k2, k3, k4⟩
              have K3 := Lib.hid k3
              have K4 := Lib.hid k4
              clear k3 k4
              go_wp2
              go_meet
              exact ⟨rfl, t1, k1, k2, K4.out, fun _ => K3.out, fun h => absurd HX.out h⟩
            | false =>
              have HX := Lib.hid (show ¬ (a < s ∧ s < mid) from fun h => by have := HV2.out.2 h; cases this)
              go_wp2
              go_meet
              exact ⟨rfl, t, hRt, HLt.out, Moved.refl _ _ _, fun h => absurd h HX.out, fun _ => rfl⟩
        case rest =>
        obtain ⟨rfl, t1, hR1, hL1, hM1, hS1, hN1⟩ := hcut
        have HM1 := Lib.hid hM1
        have HL1 := Lib.hid hL1
        have HS1 := Lib.hid (show Moved (LV.js t) (LV.js t1) a mid ∧ (a < s ∧ s < mid → SortOn (LV.js t1) a mid) ∧ (¬ (a < s ∧ s < mid) → LV.js t1 = LV.js t) from ⟨hM1, hS1, hN1⟩)
        clear hM1 hL1 hS1 hN1 hRt
        go_upto_region 43 with fail
        go_cut [213] (fun s213 wx => (∃ v : Bool, s213 = .bool v ∧ (v = true ↔ (mid < e ∧ e < b))) ∧ wx = wc)
        case first =>
          as_aux_lemma =>
            by_cases x1 : mid < e
            · by_cases x2 : e < b
              · have x1I : (mid : Int) < (e : Int) := by omega
                have x2I : (e : Int) < (b : Int) := by omega
                go_wp2
                go_meet
                exact ⟨⟨true, rfl, by simp [x1, x2]⟩, rfl⟩
              · have x1I : (mid : Int) < (e : Int) := by omega
                have x2I : ¬ (e : Int) < (b : Int) := by omega
                go_wp2
                go_meet
                exact ⟨⟨false, rfl, by simp [x2]⟩, rfl⟩
            · have x1I : ¬ (mid : Int) < (e : Int) := by omega
              go_wp2
              go_meet
              exact ⟨⟨false, rfl, by simp [x1]⟩, rfl⟩
        case rest =>
        obtain ⟨⟨v3, rfl, hv3⟩, rfl⟩ := hcut
        have HV3 := Lib.hid hv3
        clear hv3
        have FIN : Hid (∀ t2, Moved (LV.js t1) (LV.js t2) mid b → (mid < e ∧ e < b → SortOn (LV.js t2) mid b) → (¬ (mid < e ∧ e < b) → LV.js t2 = LV.js t1) → SortOn (LV.js t2) a b ∧ Moved (LV.js is) (LV.js t2) a b) := Lib.hid fun t2 k1 k2 k3 => by
          obtain ⟨m1, m2, m3, m4, m5, m6, m7, m8, m9, m10, m11⟩ := MP.out
          exact merge_fin (by rw [js_length]; have := HLL.out; have := HBL.out; omega) HMt.out m1 m5 m6 m4 m7 m8 m9 m10 m11 HS1.out ⟨k1, k2, k3⟩
        cases v3 with
        | true =>
          as_aux_lemma =>
            have HX := Lib.hid (HV3.out.1 rfl)
            go_wp2_with fail
            refine (IH.out mid e b t1 _ (by have := HX.out; have := HMM.out; have := HF.out; omega) HX.out.1 HX.out.2 HBL.out HL1.out.symm hR1 (MP.out.2.2.2.2.2.2.2.2.1.apart HM1.out (by omega)) (MP.out.2.2.2.2.2.2.2.2.2.1.apart HM1.out (by have := HX.out; omega)) _ _ _ rfl rfl rfl).mono ?_
            rintro ee w1 ⟨rfl, t2, k1, k2, k3, k4⟩
            have K := Lib.hid (FIN.out t2 k4 (fun _ => k3) (fun h => absurd HX.out h))
            clear k3 k4
            go_wp2
            go_end0
            exact ⟨rfl, t2, k1, k2, K.out.1, K.out.2⟩
        | false =>
          as_aux_lemma =>
            have HX := Lib.hid (show ¬ (mid < e ∧ e < b) from fun h => by have := HV3.out.2 h; cases this)
            have K := Lib.hid (FIN.out t1 (Moved.refl _ _ _) (fun h => absurd h HX.out) (fun _ => rfl))
            go_wp2
            go_end0
            exact ⟨rfl, t1, hR1, HL1.out, K.out.1, K.out.2⟩
end Go.Proofs.YtmobolefijneoaaDoor
