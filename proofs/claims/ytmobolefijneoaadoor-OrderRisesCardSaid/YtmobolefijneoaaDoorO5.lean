/-
  munimentref03.formed, Least.
-/
import Derived.Test.YtmobolefijneoaaDoorO4
set_option linter.unusedVariables false
namespace Go.Proofs.YtmobolefijneoaaDoor
open Go.RowKit Go.Joins Go.Deep

set_option maxHeartbeats 4000000 in
theorem rformedl_any (A : Option Addr) (is : List LV) (c : Nat) (w : World) (hR : RowAt w A is c) :
    Calls Tryd.prog 30 #[.slice A is.length c] w fun e w' => BoolIs (AllF is) e ∧ Below w.heap.size w w' := by
  have hcap := hR.cap
  have HR := Lib.hid hR
  obtain ⟨n, hn⟩ : ∃ n, is.length = n := ⟨_, rfl⟩
  rw [hn] at hcap ⊢
  have HN := Lib.hid hn
  clear hR hn
  go_enter Tryd.func30, Tryd.ntmps30
  go_wp2
  go_loopw [3] (fun i wr => ∃ q : Nat, i = .int .i64 q ∧ q ≤ n ∧ Hid (∀ j, j < q → FormedP (nth is j).j 6) ∧ Below w.heap.size w wr) (fun i _ => n - (RowKit.intOf i).toNat)
  case atStart => exact ⟨0, rfl, Nat.zero_le _, Lib.hid fun j h => absurd h (by omega), Below.refl _ _⟩
  case round =>
    obtain ⟨q, rfl, hq, HQ, hB⟩ := hrel
    by_cases hlt : q < n
    · have hqI : (q : Int) < (n : Int) := by omega
      have hql : q < is.length := by rw [HN.out]; exact hlt
      obtain ⟨b, off, rfl, hb⟩ := (HR.out.below hB).addr (by omega)
      have hF1 := fun x0 x1 x2 x3 x4 (e : (nth is q).cells = [x0, x1, x2, x3, x4]) => (HR.out.below hB).five hql e
      have hC1 := rformed_any (nth is q) wr ((HR.out.below hB).at hql)
      have HM := Lib.hid (fun x (hx : nth is q = x) => show x ∈ is from by rw [← hx]; exact nth_mem hql)
      have HQ1 := Lib.hid (fun x (hx : nth is q = x) (hf : FormedP x.j 6) => show ∀ j, j < q + 1 → FormedP (nth is j).j 6 from fun j hj => by
        by_cases e : j = q
        · rw [e, hx]; exact hf
        · exact HQ.out j (by omega))
      obtain ⟨x, hx⟩ : ∃ x, nth is q = x := ⟨_, rfl⟩
      have HM1 := Lib.hid (HM.out x hx)
      have HQ2 := Lib.hid (HQ1.out x hx)
      rw [hx] at hF1 hC1
      obtain ⟨k1, n1, s1, An1, ns1, cn1, Ai1, is1, ci1⟩ := x
      obtain ⟨d0, d1, d2, d3, d4⟩ := hF1 _ _ _ _ _ rfl
      have HC : Hid (Calls Tryd.prog 24 #[.agg #[.int .i64 k1, .int .i64 n1, .string s1, .slice An1 ns1.length cn1, .slice Ai1 is1.length ci1]] wr _) := Lib.hid hC1
      obtain ⟨P, hP⟩ : ∃ P : Prop, P = FormedP (LV.mk k1 n1 s1 An1 ns1 cn1 Ai1 is1 ci1).j 6 := ⟨_, rfl⟩
      have HP := Lib.hid hP
      rw [← hP] at HC
      clear hF1 hC1 hx HM HQ1 hP hql
      go_wp2_with fail
      refine HC.out.mono ?_
      rintro e w2 ⟨⟨bb, rfl, hbb⟩, hb2⟩
      have HBB := Lib.hid hbb
      clear hbb
      cases bb with
      | false =>
        have HB1 : Hid (¬ P) := Lib.hid (fun h => by have := HBB.out.2 h; cases this)
        clear HBB
        go_wp2
        go_ret
        exact ⟨BoolIs.no (fun h => HB1.out (by rw [HP.out]; exact h _ HM1.out)), hB.trans (hb2.mono hB.size)⟩
      | true =>
        have HB1 := Lib.hid (HBB.out.1 rfl)
        clear HBB
        go_wp2
        go_roundw
        case rel => exact ⟨q + 1, by go_num, by omega, Lib.hid (HQ2.out (by rw [← HP.out]; exact HB1.out)), hB.trans (hb2.mono hB.size)⟩
        case measure => simp [RowKit.intOf]; omega
    · have hqI : ¬ (q : Int) < (n : Int) := by omega
      go_wp2
      go_ret
      refine ⟨BoolIs.yes (fun x hx => ?_), hB⟩
      obtain ⟨j, hj, rfl⟩ := List.mem_iff_getElem.1 hx
      have := HQ.out j (by have := HN.out; omega)
      rwa [nth_lt hj] at this

theorem least_some (l : List JV) : ∀ n, 0 < n → ∃ i, i < n ∧ ∀ q, q < n → leJ (jat l i) (jat l q)
  | 0, h => by omega
  | 1, _ => ⟨0, by omega, fun q hq => by rw [show q = 0 by omega]; exact leJ_refl _⟩
  | n + 2, _ => by
    obtain ⟨i, h1, h2⟩ := least_some l (n + 1) (by omega)
    by_cases h : leJ (jat l i) (jat l (n + 1))
    · refine ⟨i, by omega, fun q hq => ?_⟩
      by_cases e : q = n + 1
      · rw [e]; exact h
      · exact h2 q (by omega)
    · have h3 : leJ (jat l (n + 1)) (jat l i) := by unfold leJ at *; have := cmpJ_neg (jat l i) (jat l (n + 1)); omega
      refine ⟨n + 1, by omega, fun q hq => ?_⟩
      by_cases e : q = n + 1
      · rw [e]; exact leJ_refl _
      · exact leJ_trans h3 (h2 q (by omega))
theorem leJ_of_ge {a b : JV} (h : 0 ≤ cmpJ b a) : leJ a b := by unfold leJ; have := cmpJ_neg a b; omega
theorem leJ_ge {a b : JV} (h : leJ a b) : 0 ≤ cmpJ b a := by unfold leJ at h; have := cmpJ_neg a b; omega
set_option maxHeartbeats 4000000 in
set_option maxRecDepth 20000 in
theorem rleast_any (A : Option Addr) (is : List LV) (c : Nat) (w : World) (hR : RowAt w A is c) (hl : is.length ≤ 1000) :
    Calls Tryd.prog 19 #[.slice A is.length c] w fun e w' => (∃ r : Int, e = .returned (.int .i64 r) ∧ LeastR is r) ∧ Below w.heap.size w w' := by
  have hcap := hR.cap
  have HFO := Lib.hid (rformedl_any _ is c w hR)
  have HR := Lib.hid hR
  obtain ⟨n, hn⟩ : ∃ n, is.length = n := ⟨_, rfl⟩
  rw [hn] at HFO hcap hl ⊢
  have HN := Lib.hid hn
  clear hR hn
  go_enter Tryd.func19, Tryd.ntmps19
  go_wp2_with fail
  refine HFO.out.mono ?_
  rintro e w2 ⟨⟨bb, rfl, hbb⟩, hb2⟩
  have HBB := Lib.hid hbb
  clear hbb HFO
  cases bb with
  | false =>
    have HB1 : Hid (¬ AllF is) := Lib.hid (fun h => by have := HBB.out.2 h; cases this)
    clear HBB
    go_wp2
    go_ret
    exact ⟨⟨-1, rfl, fun _ => rfl, fun h _ => absurd h HB1.out⟩, hb2⟩
  | true =>
    have HAF := Lib.hid (HBB.out.1 rfl)
    clear HBB
    go_wp2
    go_loopw [3] (fun vi wr => ∃ i : Nat, vi = .int .i64 i ∧ i ≤ n ∧ Hid (∀ q, q < i → ¬ ∀ p, p < n → leJ (jat (LV.js is) q) (jat (LV.js is) p)) ∧ Below w.heap.size w wr) (fun vi _ => n - (RowKit.intOf vi).toNat)
    case atStart => exact ⟨0, rfl, Nat.zero_le _, Lib.hid fun q h => absurd h (by omega), hb2⟩
    case round =>
      clear hb2
      obtain ⟨i, rfl, hi, HL, hB⟩ := hrel
      by_cases hlt : i < n
      · have hiI : (i : Int) < (n : Int) := by omega
        have hi0 : (0 : Int) ≤ (i : Int) := by omega
        go_wp2
        go_loopw [4, 5] (fun vb vk wq => ∃ (bb : Bool) (k : Nat), vb = .bool bb ∧ vk = .int .i64 k ∧ k ≤ n ∧ Hid (bb = true ↔ ∀ q, q < k → leJ (jat (LV.js is) i) (jat (LV.js is) q)) ∧ Below w.heap.size w wq) (fun _ vk _ => n - (RowKit.intOf vk).toNat)
        case atStart => exact ⟨true, 0, rfl, rfl, Nat.zero_le _, Lib.hid ⟨fun _ q h => absurd h (by omega), fun _ => rfl⟩, hB⟩
        case round =>
          clear hB
          obtain ⟨bb, k, rfl, rfl, hk, HK, hB⟩ := hrel
          by_cases hkn : k < n
          · have hkI : (k : Int) < (n : Int) := by omega
            have hk0 : (0 : Int) ≤ (k : Int) := by omega
            cases bb with
            | false =>
              go_wp2_with fail
              go_region
              all_goals go_wp2
              all_goals go_roundw
              case measure => simp [RowKit.intOf]; omega
              case rel => exact ⟨false, k + 1, rfl, by go_num, by omega, Lib.hid ⟨fun h => (by cases h), fun h => HK.out.2 fun q hq => h q (by omega)⟩, hB.drew⟩
            | true =>
              have hil : i < is.length := by rw [HN.out]; exact hlt
              have hkl : k < is.length := by rw [HN.out]; exact hkn
              have hRa := HR.out.below hB
              obtain ⟨b, off, rfl, hb⟩ := hRa.addr (by omega)
              have hRb := hRa
              have HKT := Lib.hid (HK.out.1 rfl)
              obtain ⟨D, hD⟩ : ∃ D, cmpJ (jat (LV.js is) k) (jat (LV.js is) i) = D := ⟨_, rfl⟩
              have hCMP1 := fun w' (hw' : Below wr.heap.size wr w') => hRa.plain HAF.out hkl hil w' hw'
              have hF1 := fun w' (hw' : Below wr.heap.size wr w') x0 x1 x2 x3 x4 (e : (nth is k).cells = [x0, x1, x2, x3, x4]) => (hRa.below hw').five hkl e
              have hG1 := fun w' (hw' : Below wr.heap.size wr w') x0 x1 x2 x3 x4 (e : (nth is i).cells = [x0, x1, x2, x3, x4]) => (hRb.below hw').five hil e
              obtain ⟨x, hx⟩ : ∃ x, nth is k = x := ⟨_, rfl⟩
              obtain ⟨y, hy⟩ : ∃ y, nth is i = y := ⟨_, rfl⟩
              rw [hD] at hCMP1
              rw [hx] at hCMP1 hF1
              rw [hy] at hCMP1 hG1
              obtain ⟨k1, n1, s1, An1, ns1, cn1, Ai1, is1, ci1⟩ := x
              obtain ⟨k2, n2, s2, An2, ns2, cn2, Ai2, is2, ci2⟩ := y
              have HCMP : Hid (∀ w', Below wr.heap.size wr w' → Calls Tryd.prog 25 #[.agg #[.int .i64 k1, .int .i64 n1, .string s1, .slice An1 ns1.length cn1, .slice Ai1 is1.length ci1], .agg #[.int .i64 k2, .int .i64 n2, .string s2, .slice An2 ns2.length cn2, .slice Ai2 is2.length ci2]] w' fun e w'' => e = .returned (.int .i64 D) ∧ Below w'.heap.size w' w'') := Lib.hid hCMP1
              have HG : Hid (∀ w', Below wr.heap.size wr w' → _) := Lib.hid fun w' hw' => hG1 w' hw' _ _ _ _ _ rfl
              have HF : Hid (∀ w', Below wr.heap.size wr w' → _) := Lib.hid fun w' hw' => hF1 w' hw' _ _ _ _ _ rfl
              have HD := Lib.hid hD
              clear hCMP1 hF1 hG1 hx hy hD hRa hRb
              have HB := Lib.hid hB
              clear hil hkl HK hB
              by_cases hD0 : 0 ≤ D
              · have hDb : decide (0 ≤ D) = true := decide_eq_true hD0
                go_wp2_with fail
                refine region_calm (by kernel_rfl) (by kernel_rfl) ?_
                repeat (first
                  | go_big_quiet_skip
                  | (go_big_quiet_want
                     apply quiet_at
                     · intro w' hw'
                       (obtain ⟨c0, c1, c2, c3, c4⟩ := HF.out _ (by assumption); obtain ⟨d0, d1, d2, d3, d4⟩ := HG.out _ (by assumption))
                       go_simp
                       first
                         | done
                         | exact rfl
                         | ((go_at_call 25; refine (HCMP.out _ (by assumption)).mono ?_; rintro e w9 ⟨h1, h2⟩; exact ⟨h1, Below.trans (by assumption) (h2.mono (Below.size (by assumption)))⟩))
                     (try simp only [Act.put, List.setIfInBounds_toArray, List.set_cons_zero, List.set_cons_succ])
                     go_big_quiet_on))
                refine wpQuiet_nil ?_
                intro w5 hb5
                have HB5 := Lib.hid (HB.out.trans ((show Below wr.heap.size wr w5 from hb5).mono HB.out.size))
                clear hb5
                go_wp2
                go_roundw
                case measure => simp [RowKit.intOf]; omega
                case rel => exact ⟨true, k + 1, rfl, by go_num, by omega, Lib.hid ⟨fun _ q hq => by
                  by_cases e : q = k
                  · rw [e]; exact leJ_of_ge (by rw [HD.out]; exact hD0)
                  · exact HKT.out q (by omega), fun _ => rfl⟩, HB5.out⟩
              · have hDb : decide (0 ≤ D) = false := decide_eq_false hD0
                go_wp2_with fail
                refine region_calm (by kernel_rfl) (by kernel_rfl) ?_
                repeat (first
                  | go_big_quiet_skip
                  | (go_big_quiet_want
                     apply quiet_at
                     · intro w' hw'
                       (obtain ⟨c0, c1, c2, c3, c4⟩ := HF.out _ (by assumption); obtain ⟨d0, d1, d2, d3, d4⟩ := HG.out _ (by assumption))
                       go_simp
                       first
                         | done
                         | exact rfl
                         | ((go_at_call 25; refine (HCMP.out _ (by assumption)).mono ?_; rintro e w9 ⟨h1, h2⟩; exact ⟨h1, Below.trans (by assumption) (h2.mono (Below.size (by assumption)))⟩))
                     (try simp only [Act.put, List.setIfInBounds_toArray, List.set_cons_zero, List.set_cons_succ])
                     go_big_quiet_on))
                refine wpQuiet_nil ?_
                intro w5 hb5
                have HB5 := Lib.hid (HB.out.trans ((show Below wr.heap.size wr w5 from hb5).mono HB.out.size))
                clear hb5
                go_wp2
                go_roundw
                case measure => simp [RowKit.intOf]; omega
                case rel => exact ⟨false, k + 1, rfl, by go_num, by omega, Lib.hid ⟨fun h => (by cases h), fun h => absurd (leJ_ge (h k (by omega))) (by rw [HD.out]; omega)⟩, HB5.out⟩
          · have hkI : ¬ (k : Int) < (n : Int) := by omega
            cases bb with
            | true =>
              have HKT := Lib.hid (HK.out.1 rfl)
              clear HK
              go_wp2
              go_ret
              refine ⟨⟨i, rfl, fun h => ?_, fun _ _ => ⟨i, by rw [HN.out]; exact hlt, rfl, fun q hq => HKT.out q (by have := HN.out; omega), fun q hq => ⟨by have := HN.out; omega, fun hle => HL.out q hq fun p hp => leJ_trans hle (HKT.out p (by omega))⟩⟩⟩, hB⟩
              rcases h with h | h
              · exact absurd HAF.out h
              · have := HN.out; rw [h] at this; simp at this; omega
            | false =>
              have HKF : Hid (¬ ∀ q, q < n → leJ (jat (LV.js is) i) (jat (LV.js is) q)) := Lib.hid (fun h => by have := HK.out.2 fun q hq => h q (by omega); cases this)
              clear HK
              go_wp2
              go_roundw
              case measure => simp [RowKit.intOf]; omega
              case rel => exact ⟨i + 1, by go_num, by omega, Lib.hid (fun q hq => by
                by_cases e : q = i
                · rw [e]; exact HKF.out
                · exact HL.out q (by omega)), hB⟩
      · have hiI : ¬ (i : Int) < (n : Int) := by omega
        go_wp2
        go_ret
        refine ⟨⟨-1, rfl, fun _ => rfl, fun _ h0 => ?_⟩, hB⟩
        obtain ⟨j, h1, h2⟩ := least_some (LV.js is) n (by have := HN.out; omega)
        exact absurd h2 (HL.out j (by omega))
end Go.Proofs.YtmobolefijneoaaDoor
