/-
  Plain words: the order of rows byte by byte.
-/
import Derived.Test.YtpnbmgfnnmmokaaDoorKb
import Derived.Lib.Bytealg
set_option linter.unusedVariables false
namespace Go.Proofs.YtpnbmgfnnmmokaaDoor

/-- Byte by byte, the shorter one first. -/
def lessB : List Int → List Int → Bool
  | _, [] => false
  | [], _ :: _ => true
  | a :: r, b :: s => if a = b then lessB r s else decide (a < b)
theorem lessB_nil (a : List Int) : lessB a [] = false := by cases a <;> rfl
theorem lessB_app (p a b : List Int) : lessB (p ++ a) (p ++ b) = lessB a b := by
  induction p with
  | nil => rfl
  | cons x r ih => simp [lessB, ih]
theorem lessB_self (a : List Int) : lessB a a = false := by
  induction a with
  | nil => rfl
  | cons x r ih => simp [lessB, ih]
theorem lessB_tri (a b : List Int) : lessB a b = true ∨ a = b ∨ lessB b a = true := by
  induction a generalizing b with
  | nil => cases b <;> simp [lessB]
  | cons x r ih =>
    rcases b with _ | ⟨y, s⟩
    · simp [lessB]
    · by_cases h : x = y
      · subst h
        rcases ih s with h | h | h <;> simp [lessB, h]
      · have h' : ¬ y = x := fun e => h e.symm
        simp only [lessB, if_neg h, if_neg h', decide_eq_true_eq]
        omega
theorem lessB_asymm (a b : List Int) (h : lessB a b = true) : lessB b a = false := by
  induction a generalizing b with
  | nil => exact lessB_nil b
  | cons x r ih =>
    rcases b with _ | ⟨y, s⟩
    · cases h
    · by_cases e : x = y
      · subst e
        simp only [lessB, if_true] at h ⊢
        exact ih s h
      · have e' : ¬ y = x := fun k => e k.symm
        simp only [lessB, if_neg e, if_neg e', decide_eq_true_eq, decide_eq_false_iff_not] at h ⊢
        omega
theorem lessB_at {a b : List Int} {k : Nat} (h : a.take k = b.take k) (ha : k < a.length) (hb : k < b.length) (hne : a[k] ≠ b[k]) : lessB a b = decide (a[k] < b[k]) := by
  have e1 : a = a.take k ++ a[k] :: a.drop (k + 1) := by rw [← List.drop_eq_getElem_cons ha, List.take_append_drop]
  have e2 : b = a.take k ++ b[k] :: b.drop (k + 1) := by rw [h, ← List.drop_eq_getElem_cons hb, List.take_append_drop]
  have e3 : lessB a b = lessB (a.take k ++ a[k] :: a.drop (k + 1)) (a.take k ++ b[k] :: b.drop (k + 1)) := by rw [← e1, ← e2]
  rw [e3, lessB_app, lessB, if_neg hne]
theorem lessB_end {a b : List Int} {k : Nat} (h : a.take k = b.take k) (ha : k ≤ a.length) (hb : k ≤ b.length) (hk : ¬ (k < a.length ∧ k < b.length)) : lessB a b = decide (a.length < b.length) := by
  have e1 : a = a.take k ++ a.drop k := (List.take_append_drop _ _).symm
  have e2 : b = a.take k ++ b.drop k := by rw [h, List.take_append_drop]
  have e3 : lessB a b = lessB (a.take k ++ a.drop k) (a.take k ++ b.drop k) := by rw [← e1, ← e2]
  rw [e3, lessB_app]
  by_cases h1 : k < b.length
  · have : a.drop k = [] := List.drop_eq_nil_of_le (by omega)
    rw [this]
    rcases hd : b.drop k with _ | ⟨y, s⟩
    · have := congrArg List.length hd
      simp at this
      omega
    · rw [lessB]
      symm
      simp
      omega
  · have : b.drop k = [] := List.drop_eq_nil_of_le (by omega)
    rw [this, lessB_nil]
    symm
    simp
    omega
def cmpN (x y : Int) : Int := if x < y then -1 else if y < x then 1 else 0
def cmpB (a b : List Int) : Int := if lessB a b = true then -1 else if lessB b a = true then 1 else 0
theorem cmp_bytes (a b : List Int) (ha : Oct a) (hb : Oct b) : Lib.compareBytes (a.map fun n => UInt8.ofNat n.toNat) (b.map fun n => UInt8.ofNat n.toNat) = cmpB a b := by
  induction a generalizing b with
  | nil => rcases b with _ | ⟨y, s⟩ <;> simp [Lib.compareBytes, cmpB, lessB]
  | cons x r ih =>
    rcases b with _ | ⟨y, s⟩
    · simp [Lib.compareBytes, cmpB, lessB]
    · have hx := ha x (by simp)
      have hy := hb y (by simp)
      have ih' := ih s (fun z hz => ha z (by simp [hz])) (fun z hz => hb z (by simp [hz]))
      have e1 : (UInt8.ofNat x.toNat < UInt8.ofNat y.toNat) ↔ x < y := by
        rw [UInt8.lt_iff_toNat_lt]; simp; omega
      have e2 : (UInt8.ofNat y.toNat < UInt8.ofNat x.toNat) ↔ y < x := by
        rw [UInt8.lt_iff_toNat_lt]; simp; omega
      simp only [List.map_cons, Lib.compareBytes, e1, e2, ih', cmpB, lessB]
      by_cases h : x = y
      · subst h; simp
      · have h' : ¬ y = x := fun e => h e.symm
        simp only [if_neg h, if_neg h', decide_eq_true_eq]
        by_cases h1 : x < y
        · simp [h1]
        · have h2 : y < x := by omega
          simp [h1, h2]


end Go.Proofs.YtpnbmgfnnmmokaaDoor
