/-
  munimentlaw02.awake; PathSteps: its walk.
-/
import Derived.Test.YtkjjafijmpacpaaDoorTa
import Derived.Test.YtkjjafijmpacpaaDoorUc
import Derived.Deep.QuietTactic
import Derived.BigQuiet
set_option linter.unusedVariables false
namespace Go.Proofs.YtkjjafijmpacpaaDoor
open Go.RowKit Go.Lib

theorem validW {w : World} (hT : Tabs w) : ∀ w', Below w.heap.size w w' → ∀ t : ByteArray, t.size ≤ 2000 → Calls Tryd.prog 18 #[.string t] w' fun e w'' => e = .returned (.bool (validD t.data.toList)) ∧ Below w'.heap.size w' w'' :=
  fun w' hb t ht => valid_any t w' (by omega) (hT.below hb)
theorem stepsT (s : ByteArray) (w : World) (hs : s.size ≤ 2000) (hT : Tabs w) : Calls Tryd.prog 9 #[.string s] w (StepsRes (stepsP s (s.size + 1) 0 0 []) w) := steps_any s w hs (validW hT)
theorem rstepsT (s : ByteArray) (w : World) (hs : s.size ≤ 2000) : Calls Tryd.prog 10 #[.string s] w (StepsRes (stepsP s (s.size + 1) 0 0 []) w) :=
  rsteps_any s w hs fun w' _ t ht => rvalid_any t w' (by omega)
theorem steps_ab : stepsP ⟨#[97, 46, 98]⟩ 4 0 0 [] = some [⟨#[97]⟩, ⟨#[98]⟩] := by kernel_rfl

set_option maxHeartbeats 1000000 in
theorem awake_any (w : World) (hT : Tabs w) : Calls Tryd.prog 8 #[] w fun e w' => e = .returned (.bool true) ∧ Below w.heap.size w w' := by
  have HC : Hid (Calls Tryd.prog 9 #[.string ⟨#[97, 46, 98]⟩] w (StepsRes (some [⟨#[97]⟩, ⟨#[98]⟩]) w)) := Lib.hid (by
    have := stepsT ⟨#[97, 46, 98]⟩ w (by decide) hT
    rwa [show (ByteArray.mk #[97, 46, 98]).size + 1 = 4 from rfl, steps_ab] at this)
  clear hT
  go_enter Tryd.func8, Tryd.ntmps8
  go_wp2_with fail
  refine HC.out.mono ?_
  rintro e w1 ⟨⟨v, rfl, hown⟩, hb⟩
  obtain ⟨A, c, rfl, h1, h2, hc⟩ := ownsRow_shape hown
  obtain ⟨b, off, e, hb1, hc1⟩ := hc 1 (.string ⟨#[98]⟩) rfl
  subst e
  have hx : ((ByteArray.mk #[98]).toList == [98]) = true := by rw [ByteArray.toList_eq]; rfl
  go_wp2
  go_ret
  exact ⟨rfl, hb⟩

set_option maxHeartbeats 4000000 in
theorem steps_walk (s : ByteArray) (w : World) (hT : Tabs w) :
    Calls Tryd.prog 3 #[.string s] w fun e w' => e = .returned (.bool true) ∧ Below w.heap.size w w' := by
  have HA1 := Lib.hid (awake_any w hT)
  by_cases hk : 2000 < s.size
  · have hkI : (2000 : Int) < (s.size : Int) := by omega
    have HA2 : Hid (∀ w1, Below w.heap.size w w1 → Calls Tryd.prog 8 #[] w1 fun e w' => e = .returned (.bool true) ∧ Below w1.heap.size w1 w') := Lib.hid fun w1 hb => awake_any w1 (hT.below hb)
    clear hT
    go_enter Tryd.func3, Tryd.ntmps3
    go_wp2_with fail
    refine HA1.out.mono ?_
    rintro e w1 ⟨rfl, hb1⟩
    go_wp2_with fail
    refine (HA2.out w1 hb1).mono ?_
    rintro e w2 ⟨rfl, hb2⟩
    go_wp2
    go_ret
    exact ⟨rfl, hb1.trans (hb2.mono hb1.size)⟩
  · have hkI : ¬ (2000 : Int) < (s.size : Int) := by omega
    obtain ⟨X, hX⟩ : ∃ X, stepsP s (s.size + 1) 0 0 [] = X := ⟨_, rfl⟩
    have HS1 : Hid (∀ w1, Below w.heap.size w w1 → Calls Tryd.prog 9 #[.string s] w1 (StepsRes X w1)) := Lib.hid fun w1 hb => by rw [← hX]; exact stepsT s w1 (by omega) (hT.below hb)
    have HS2 : Hid (∀ w1, Calls Tryd.prog 10 #[.string s] w1 (StepsRes X w1)) := Lib.hid fun w1 => by rw [← hX]; exact rstepsT s w1 (by omega)
    clear hX hT
    go_enter Tryd.func3, Tryd.ntmps3
    go_wp2_with fail
    refine HA1.out.mono ?_
    rintro e w1 ⟨rfl, hb1⟩
    go_wp2_with fail
    refine (HS1.out w1 hb1).mono ?_
    cases X with
    | none =>
      rintro e w2 ⟨rfl, hb2⟩
      go_wp2_with fail
      refine (HS2.out w2).mono ?_
      rintro e w3 ⟨rfl, hb3⟩
      have hB2 := hb1.trans (hb2.mono hb1.size)
      have hB3 := hB2.trans (hb3.mono hB2.size)
      go_wp2
      go_loopw [7] (fun i wr => i = .int .i64 0 ∧ wr = w3) (fun _ _ => 0)
      case atStart => exact ⟨rfl, rfl⟩
      case round =>
        obtain ⟨rfl, rfl⟩ := hrel
        go_wp2
        go_ret
        exact ⟨rfl, hB3⟩
    | some out =>
      rintro e w2 ⟨⟨v2, rfl, hown2⟩, hb2⟩
      obtain ⟨A2, c2, rfl, g1, g2, _⟩ := ownsRow_shape hown2
      go_wp2_with fail
      refine (HS2.out w2).mono ?_
      rintro e w3 ⟨⟨v3, rfl, hown3⟩, hb3⟩
      obtain ⟨A3, c3, rfl, g3, g4, hC3⟩ := ownsRow_shape hown3
      have hB2 := hb1.trans (hb2.mono hb1.size)
      have hB3 := hB2.trans (hb3.mono hB2.size)
      obtain ⟨_, _, e2, _, _, hC2⟩ := ownsRow_shape (row_below hown2 hb3)
      injection e2 with e2
      subst e2
      have hne : ((out.length : Int) != (out.length : Int)) = false := by simp
      unfold maxLen at g2
      go_wp2
      go_loopw [7] (fun i wr => ∃ k n : Nat, k ≤ out.length ∧ i = .int .i64 k ∧ wr = w3.drewN n) (fun i _ => out.length - (RowKit.intOf i).toNat)
      case atStart => exact ⟨0, 0, Nat.zero_le _, rfl, rfl⟩
      case round =>
        obtain ⟨k, n, hk, rfl, rfl⟩ := hrel
        by_cases hlt : k < out.length
        · have hkI : (k : Int) < (out.length : Int) := by omega
          have hk0 : (0 : Int) ≤ (k : Int) := by omega
          obtain ⟨b2, o2, rfl, _, hc2⟩ := hC2 k (.string out[k]) (by rw [List.getElem?_map, List.getElem?_eq_getElem hlt]; rfl)
          obtain ⟨b3, o3, rfl, _, hc3⟩ := hC3 k (.string out[k]) (by rw [List.getElem?_map, List.getElem?_eq_getElem hlt]; rfl)
          generalize out[k] = x at *
          have hx : (x.toList == x.toList) = true := by simp
          go_wp2
          go_quiet (fail)
          go_wp2
          go_roundw
          case rel => exact ⟨k + 1, _, by omega, by go_num, rfl⟩
          case measure => simp [RowKit.intOf]; omega
        · have hkI : ¬ (k : Int) < (out.length : Int) := by omega
          go_wp2
          go_ret
          exact ⟨rfl, below_drewNv hB3 _⟩
end Go.Proofs.YtkjjafijmpacpaaDoor
