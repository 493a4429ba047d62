/-
  few.
-/
import Derived.Test.YtaimohidpppfeaaDq
set_option linter.unusedVariables false
namespace Go.Proofs.Ytaimohidpppfeaa
open Go.RowKit

/-- What few answers, as far as the laws lean on it. -/
def FewPost (l : List OpD) (w : World) (e : Ending) (w' : World) : Prop := ∃ b : Bool, e = .returned (.bool b) ∧ w = w' ∧ (b = true → l.length ≤ 60 ∧ ∀ o ∈ l, o.keep.length ≤ 1000)

set_option maxHeartbeats 2000000 in
theorem few_any (A : Option Addr) (l : List OpD) (c : Nat) (w : World) (h : Ops w A l) (hl : l.length ≤ 9223372036854775807) :
    Calls Try.prog 9 #[.slice A l.length c] w (FewPost l w) := by
  go_enter Try.func9, Try.ntmps9
  go_wp2
  go_loop [3] (fun i => ∃ k : Nat, i = .int .i64 k ∧ k ≤ l.length ∧ k ≤ 100 ∧ ∀ j (hj : j < l.length), j < k → (l[j]).keep.length ≤ 1000)
    (fun i => 100 - (intOf i).toNat)
  case atStart => exact ⟨0, rfl, by omega, by omega, fun j _ hj => by omega⟩
  case round =>
    obtain ⟨k, rfl, hk, hk1, hall⟩ := hrel
    by_cases h1 : k < l.length
    · have g1 : (k : Int) < (l.length : Int) := by omega
      by_cases h2 : k < 100
      · have g2 : (k : Int) < 100 := by omega
        obtain ⟨b, off, rfl, hb, c0, c1, c2, c3⟩ := h.at_ h1
        have hfit := h.fits _ (List.getElem_mem h1)
        have hkl := hfit.hl
        obtain ⟨K, hK⟩ : ∃ K : Nat, (l[k]).keep.length = K := ⟨_, rfl⟩
        rw [hK] at c3 hkl
        have HK := Lib.hid hK
        clear hK hfit c0 c1 c2
        by_cases h3 : 1000 < K
        · have g3 : (1000 : Int) < (K : Int) := by omega
          go_wp2
          go_ret
          exact ⟨_, rfl, rfl, fun x => by cases x⟩
        · have g3 : ¬ (1000 : Int) < (K : Int) := by omega
          have hn : ∀ j (hj : j < l.length), j < k + 1 → (l[j]).keep.length ≤ 1000 := fun j hj hjk => by
            by_cases e : j = k
            · subst e; have := HK.out; omega
            · exact hall j hj (by omega)
          have HN := Lib.hid hn
          clear hn
          go_wp2
          go_round
          case rel => exact ⟨k + 1, by go_num, by omega, by omega, HN.out⟩
          case measure => simp [intOf]; omega
      · have g2 : ¬ (k : Int) < 100 := by omega
        have g4 : ¬ (l.length : Int) ≤ 60 := by omega
        go_wp2
        go_ret
        exact ⟨_, rfl, rfl, fun x => by cases x⟩
    · have g1 : ¬ (k : Int) < (l.length : Int) := by omega
      have HN : Hid (∀ o ∈ l, o.keep.length ≤ 1000) := Lib.hid fun o ho => by
        obtain ⟨i, hi, rfl⟩ := List.getElem_of_mem ho
        exact hall i hi (by omega)
      by_cases h2 : l.length ≤ 60
      · have g4 : (l.length : Int) ≤ 60 := by omega
        go_wp2
        go_ret
        exact ⟨_, rfl, rfl, fun _ => ⟨h2, HN.out⟩⟩
      · have g4 : ¬ (l.length : Int) ≤ 60 := by omega
        go_wp2
        go_ret
        exact ⟨_, rfl, rfl, fun x => by cases x⟩
end Go.Proofs.Ytaimohidpppfeaa
