/-
  Plain words: the order of rows byte by byte.
-/
import Derived.Test.YtamfhjjepeggcaaKit
import Derived.Test.YtamfhjjepeggcaaSp
set_option linter.unusedVariables false
namespace Go.Proofs.Ytamfhjjepeggcaa

/-- Byte by byte, the shorter one first. -/
def lessB : List Int → List Int → Bool
  | _, [] => false
  | [], _ :: _ => true
  | a :: r, b :: s => if a = b then lessB r s else decide (a < b)
theorem lessB_nil (a : List Int) : lessB a [] = false := by cases a <;> rfl
theorem lessB_app (p a b : List Int) : lessB (p ++ a) (p ++ b) = lessB a b := by
  induction p with
  | nil => rfl
  | cons x r ih => simp [lessB, ih]
theorem lessB_self (a : List Int) : lessB a a = false := by
  induction a with
  | nil => rfl
  | cons x r ih => simp [lessB, ih]
theorem lessB_tri (a b : List Int) : lessB a b = true ∨ a = b ∨ lessB b a = true := by
  induction a generalizing b with
  | nil => cases b <;> simp [lessB]
  | cons x r ih =>
    rcases b with _ | ⟨y, s⟩
    · simp [lessB]
    · by_cases h : x = y
      · subst h
        rcases ih s with h | h | h <;> simp [lessB, h]
      · have h' : ¬ y = x := fun e => h e.symm
        simp only [lessB, if_neg h, if_neg h', decide_eq_true_eq]
        omega
theorem lessB_asymm (a b : List Int) (h : lessB a b = true) : lessB b a = false := by
  induction a generalizing b with
  | nil => exact lessB_nil b
  | cons x r ih =>
    rcases b with _ | ⟨y, s⟩
    · cases h
    · by_cases e : x = y
      · subst e
        simp only [lessB, if_true] at h ⊢
        exact ih s h
      · have e' : ¬ y = x := fun k => e k.symm
        simp only [lessB, if_neg e, if_neg e', decide_eq_true_eq, decide_eq_false_iff_not] at h ⊢
        omega
theorem lessB_at {a b : List Int} {k : Nat} (h : a.take k = b.take k) (ha : k < a.length) (hb : k < b.length) (hne : a[k] ≠ b[k]) : lessB a b = decide (a[k] < b[k]) := by
  have e1 : a = a.take k ++ a[k] :: a.drop (k + 1) := by rw [← List.drop_eq_getElem_cons ha, List.take_append_drop]
  have e2 : b = a.take k ++ b[k] :: b.drop (k + 1) := by rw [h, ← List.drop_eq_getElem_cons hb, List.take_append_drop]
  have e3 : lessB a b = lessB (a.take k ++ a[k] :: a.drop (k + 1)) (a.take k ++ b[k] :: b.drop (k + 1)) := by rw [← e1, ← e2]
  rw [e3, lessB_app, lessB, if_neg hne]
theorem lessB_end {a b : List Int} {k : Nat} (h : a.take k = b.take k) (ha : k ≤ a.length) (hb : k ≤ b.length) (hk : ¬ (k < a.length ∧ k < b.length)) : lessB a b = decide (a.length < b.length) := by
  have e1 : a = a.take k ++ a.drop k := (List.take_append_drop _ _).symm
  have e2 : b = a.take k ++ b.drop k := by rw [h, List.take_append_drop]
  have e3 : lessB a b = lessB (a.take k ++ a.drop k) (a.take k ++ b.drop k) := by rw [← e1, ← e2]
  rw [e3, lessB_app]
  by_cases h1 : k < b.length
  · have : a.drop k = [] := List.drop_eq_nil_of_le (by omega)
    rw [this]
    rcases hd : b.drop k with _ | ⟨y, s⟩
    · have := congrArg List.length hd
      simp at this
      omega
    · rw [lessB]
      symm
      simp
      omega
  · have : b.drop k = [] := List.drop_eq_nil_of_le (by omega)
    rw [this, lessB_nil]
    symm
    simp
    omega

/-- A name's bytes among those of a space and a name. -/
theorem esc_span (n m T : List Int) (hn : Oct n) (hm : Oct m) (hT : T ≠ []) :
    (n = m → lessB (esc n ++ 0 :: 0 :: T) (esc m ++ [0, 0]) = false ∧ lessB (esc n ++ 0 :: 0 :: T) (esc m ++ [0, 1]) = true) ∧
    (n ≠ m → lessB (esc n ++ 0 :: 0 :: T) (esc m ++ [0, 0]) = lessB (esc n ++ 0 :: 0 :: T) (esc m ++ [0, 1])) := by
  induction n generalizing m with
  | nil =>
    rcases m with _ | ⟨d, s⟩
    · refine ⟨fun _ => ?_, fun h => absurd rfl h⟩
      rcases T with _ | ⟨y, T⟩
      · exact absurd rfl hT
      · simp [esc, lessB]
    · refine ⟨(fun h => by cases h), fun _ => ?_⟩
      by_cases hd : d = 0
      · subst hd; simp [esc, lessB]
      · have hd' : ¬ (0 : Int) = d := fun e => hd e.symm
        simp [esc, lessB, hd, hd']
  | cons c r ih =>
    rcases m with _ | ⟨d, s⟩
    · refine ⟨(fun h => by cases h), fun _ => ?_⟩
      by_cases hd : c = 0
      · subst hd; simp [esc, lessB]
      · simp [esc, lessB, hd]
    · have ih' := ih s (fun x hx => hn x (by simp [hx])) (fun x hx => hm x (by simp [hx]))
      by_cases he : c = d
      · subst he
        constructor
        · intro h
          injection h with _ h
          have := ih'.1 h
          by_cases hd : c = 0
          · subst hd; simpa [esc, lessB] using this
          · simpa [esc, lessB, hd] using this
        · intro h
          have := ih'.2 (fun e => h (by rw [e]))
          by_cases hd : c = 0
          · subst hd; simpa [esc, lessB] using this
          · simpa [esc, lessB, hd] using this
      · refine ⟨(fun h => by injection h with h _; exact absurd h he), fun _ => ?_⟩
        by_cases hc : c = 0
        · subst hc
          have hd : ¬ d = 0 := fun e => he e.symm
          simp [esc, lessB, hd, he]
        · by_cases hd : d = 0
          · subst hd; simp [esc, lessB, hc]
          · simp [esc, lessB, hc, hd, he]

/-- Names are ordered as their bytes are. -/
theorem esc_less (n m T S : List Int) (hn : Oct n) (hm : Oct m) :
    (n = m → lessB (esc n ++ 0 :: 0 :: T) (esc m ++ 0 :: 0 :: S) = lessB T S) ∧
    (n ≠ m → lessB (esc n ++ 0 :: 0 :: T) (esc m ++ 0 :: 0 :: S) = lessB n m) := by
  induction n generalizing m with
  | nil =>
    rcases m with _ | ⟨d, s⟩
    · exact ⟨fun _ => by simp [esc, lessB], fun h => absurd rfl h⟩
    · refine ⟨(fun h => by cases h), fun _ => ?_⟩
      have h0 := hm d (by simp)
      by_cases hd : d = 0
      · subst hd; simp [esc, lessB]
      · have hd' : ¬ (0 : Int) = d := fun e => hd e.symm
        simp [esc, lessB, hd, hd']
        omega
  | cons c r ih =>
    have h0 := hn c (by simp)
    rcases m with _ | ⟨d, s⟩
    · refine ⟨(fun h => by cases h), fun _ => ?_⟩
      by_cases hd : c = 0
      · subst hd; simp [esc, lessB]
      · simp [esc, lessB, hd]
        omega
    · have h1 := hm d (by simp)
      have ih' := ih s (fun x hx => hn x (by simp [hx])) (fun x hx => hm x (by simp [hx]))
      by_cases he : c = d
      · subst he
        constructor
        · intro h
          injection h with _ h
          have := ih'.1 h
          by_cases hd : c = 0
          · subst hd; simpa [esc, lessB] using this
          · simpa [esc, lessB, hd] using this
        · intro h
          have := ih'.2 (fun e => h (by rw [e]))
          by_cases hd : c = 0
          · subst hd; simpa [esc, lessB] using this
          · simpa [esc, lessB, hd] using this
      · refine ⟨(fun h => by injection h with h _; exact absurd h he), fun _ => ?_⟩
        by_cases hc : c = 0
        · subst hc
          have hd : ¬ d = 0 := fun e => he e.symm
          simp [esc, lessB, hd, he]
        · by_cases hd : d = 0
          · subst hd; simp [esc, lessB, hc]
          · simp [esc, lessB, hc, hd, he]

theorem be64_less (x y : Int) (hx : 0 ≤ x) (hx' : x ≤ 18446744073709551615) (hy : 0 ≤ y) (hy' : y ≤ 18446744073709551615) : lessB (be64 x) (be64 y) = decide (x < y) := by
  simp only [be64, lessB]
  repeat' split
  all_goals (first | (symm; simp only [decide_eq_false_iff_not]; omega) | (rw [decide_eq_decide]; omega))
end Go.Proofs.Ytamfhjjepeggcaa
