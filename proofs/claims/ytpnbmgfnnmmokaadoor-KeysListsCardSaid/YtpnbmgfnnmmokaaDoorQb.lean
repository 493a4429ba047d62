/-
  Plain: the key of a value; the contract of keys.put.
-/
import Derived.Test.YtpnbmgfnnmmokaaDoorQa
import Derived.Test.YtpnbmgfnnmmokaaDoorWg
set_option linter.unusedVariables false
namespace Go.Proofs.YtpnbmgfnnmmokaaDoor
open Go.RowKit

/-- A number's place among all: the least one is 0. -/
def ordN (n : Int) : Int := n + 9223372036854775808
mutual
/-- The key of a formed value. -/
def keyJ : JV → List Int
  | .mk k n s ns is => (k + 1) :: (if k = 3 then be64 (ordN n) else if k = 4 then textK s else if k = 5 ∨ k = 6 then keyRows (decide (k = 6)) is ns ++ [0] else [])
/-- The members' keys. -/
def keyRows (ob : Bool) : List JV → List ByteArray → List Int
  | [], _ => []
  | x :: xs, ns => (if ob = true then 1 :: textK (ns.headD ⟨#[]⟩) else []) ++ keyJ x ++ keyRows ob xs ns.tail
end
/-- How long a key of a value of a depth may be. -/
def keyMax (left : Nat) : Nat := 3000 * 25 ^ left
theorem keyMax_succ (left : Nat) : keyMax (left + 1) = 25 * keyMax left := by unfold keyMax; rw [Nat.pow_succ]; omega
theorem keyMax_pos (left : Nat) : 3000 ≤ keyMax left := by
  unfold keyMax
  have : 0 < 25 ^ left := Nat.pow_pos (by omega)
  omega
theorem be64_oct (x : Int) : Oct (be64 x) := by
  intro y hy
  simp only [be64, List.mem_cons, List.not_mem_nil, or_false] at hy
  rcases hy with rfl | rfl | rfl | rfl | rfl | rfl | rfl | rfl <;> omega
mutual
theorem keyJ_len : ∀ (j : JV) (left : Nat), FormedP j left → (keyJ j).length ≤ keyMax left
  | .mk k n s ns is, left, h => by
    rw [FormedP] at h
    obtain ⟨h0, ⟨a0, a1, a2, a3, a4, a5, a6⟩, hn, hi⟩ := h
    have hp := keyMax_pos left
    rw [keyJ, List.length_cons]
    by_cases h3 : k = 3
    · rw [if_pos h3, be64_len]; omega
    · rw [if_neg h3]
      by_cases h4 : k = 4
      · rw [if_pos h4]
        have := textK_len s
        have := a4.1
        omega
      · rw [if_neg h4]
        by_cases h5 : k = 5 ∨ k = 6
        · rw [if_pos h5]
          have hl := (a6 (by omega)).1
          obtain ⟨l, rfl⟩ : ∃ l, left = l + 1 := ⟨left - 1, by omega⟩
          have hr := keyRows_len (decide (k = 6)) is ns l hi (fun t ht => by
            obtain ⟨i, hi', rfl⟩ := List.mem_iff_getElem.1 ht
            exact (hn i hi').1.1)
          rw [keyMax_succ]
          have := keyMax_pos l
          have h24 : is.length * (123 + keyMax l) ≤ 24 * (123 + keyMax l) := Nat.mul_le_mul_right _ hl
          rw [List.length_append]
          simp only [List.length_cons, List.length_nil]
          omega
        · rw [if_neg h5]; simp; omega
theorem keyRows_len (ob : Bool) : ∀ (is : List JV) (ns : List ByteArray) (left : Nat), FormedAll is left → (∀ t ∈ ns, t.size ≤ 60) → (keyRows ob is ns).length ≤ is.length * (123 + keyMax left)
  | [], _, _, _, _ => by simp [keyRows]
  | x :: xs, ns, left, h, hn => by
    have h1 := keyJ_len x left h.1
    have h2 := keyRows_len ob xs ns.tail left h.2 (fun t ht => hn t (List.mem_of_mem_tail ht))
    have h3 : (textK (ns.headD ⟨#[]⟩)).length ≤ 122 := by
      have := textK_len (ns.headD ⟨#[]⟩)
      have h4 : (ns.headD ⟨#[]⟩).size ≤ 60 := by
        rcases ns with _ | ⟨a, r⟩
        · exact Nat.zero_le _
        · exact hn a (.head _)
      omega
    have h6 : xs.length * (123 + keyMax left) + (123 + keyMax left) = (xs.length + 1) * (123 + keyMax left) := by rw [Nat.succ_mul]
    rw [keyRows, List.length_append, List.length_append, List.length_cons, ← h6]
    generalize xs.length * (123 + keyMax left) = U at *
    cases ob
    · simp only [Bool.false_eq_true, ↓reduceIte, List.length_nil]; omega
    · simp only [↓reduceIte, List.length_cons]; omega
end
mutual
theorem keyJ_oct : ∀ (j : JV) (left : Nat), FormedP j left → Oct (keyJ j)
  | .mk k n s ns is, left, h => by
    rw [FormedP] at h
    obtain ⟨h0, ⟨a0, a1, _⟩, _, hi⟩ := h
    rw [keyJ]
    refine Oct.cons (by omega) (by omega) ?_
    split
    · exact be64_oct _
    · split
      · exact textK_oct s
      · split
        · exact (keyRows_oct _ is ns _ hi).app (Oct.cons (by omega) (by omega) Oct.nil)
        · exact Oct.nil
theorem keyRows_oct (ob : Bool) : ∀ (is : List JV) (ns : List ByteArray) (left : Nat), FormedAll is left → Oct (keyRows ob is ns)
  | [], _, _, _ => by rw [keyRows]; exact Oct.nil
  | x :: xs, ns, left, h => by
    rw [keyRows]
    refine (Oct.app ?_ (keyJ_oct x left h.1)).app (keyRows_oct ob xs _ left h.2)
    split
    · exact Oct.cons (by omega) (by omega) (textK_oct _)
    · exact Oct.nil
end
theorem keyRows_drop (ob : Bool) (is : List JV) (ns : List ByteArray) (q : Nat) (h : q < is.length) : keyRows ob (is.drop q) (ns.drop q) = (if ob = true then 1 :: textK (ns.getD q ⟨#[]⟩) else []) ++ keyJ is[q] ++ keyRows ob (is.drop (q + 1)) (ns.drop (q + 1)) := by
  have e : (ns.drop q).headD ⟨#[]⟩ = ns.getD q ⟨#[]⟩ := by rw [List.headD_eq_head?_getD, List.head?_drop, List.getD_eq_getElem?_getD]
  rw [List.drop_eq_getElem_cons h, keyRows, e, List.tail_drop]
end Go.Proofs.YtpnbmgfnnmmokaaDoor
