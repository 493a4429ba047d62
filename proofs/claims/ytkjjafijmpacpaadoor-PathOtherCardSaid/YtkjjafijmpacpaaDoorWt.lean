/-
  Plain: what is put at a path is got there; what was there, put again, makes the value that was; elsewhere all stays.
-/
import Derived.Test.YtkjjafijmpacpaaDoorWn
set_option linter.unusedVariables false
namespace Go.Proofs.YtkjjafijmpacpaaDoor
open Go.RowKit

theorem mid_at {α : Type} (l : List α) (x : α) (q : Nat) (h : q ≤ l.length) (r : List α) : (l.take q ++ [x] ++ r)[q]? = some x := by
  rw [List.append_assoc, List.getElem?_append_right (by rw [List.length_take]; omega)]
  simp [List.length_take, Nat.min_eq_left h]
theorem set_mid {α : Type} (l : List α) (x : α) (q : Nat) (h : q < l.length) : l.take q ++ [x] ++ l.drop (q + 1) = l.set q x := by
  rw [List.set_eq_take_append_cons_drop, if_pos h, List.append_assoc]; rfl
theorem findGo_shift (st : ByteArray) : ∀ (l : List ByteArray) (q : Nat), findGo st l q = if findGo st l 0 = -1 then -1 else findGo st l 0 + q
  | [], q => by simp [findGo]
  | x :: xs, q => by
    rw [findGo, findGo]
    by_cases h : x = st
    · rw [if_pos h, if_pos h]; simp
    · rw [if_neg h, if_neg h, findGo_shift st xs (q + 1), findGo_shift st xs (0 + 1)]
      rcases findGo_ge st xs 0 with h1 | ⟨h1, _⟩
      · simp [h1]
      · rw [if_neg (by omega), if_neg (by omega), if_neg (by omega)]; omega
theorem findGo_none {st : ByteArray} : ∀ {l : List ByteArray}, findGo st l 0 = -1 → st ∉ l
  | [], _ => by simp
  | x :: xs, h => by
    rw [findGo] at h
    split at h
    · omega
    · rename_i hx
      rw [findGo_shift] at h
      have h1 : findGo st xs 0 = -1 := by
        rcases findGo_ge st xs 0 with h2 | ⟨h2, _⟩
        · exact h2
        · rw [if_neg (by omega)] at h; omega
      have := findGo_none h1
      intro hm
      rcases List.mem_cons.1 hm with e | e
      · exact hx e.symm
      · exact this e
theorem findGo_new (st : ByteArray) : ∀ (l r : List ByteArray) (q : Nat), st ∉ l → findGo st (l ++ st :: r) q = q + l.length
  | [], r, q, _ => by rw [List.nil_append, findGo, if_pos rfl]; simp
  | x :: xs, r, q, h => by
    rw [List.cons_append, findGo, if_neg (fun e => h (by rw [e]; exact .head _)), findGo_new st xs r (q + 1) (fun e => h (.tail _ e))]
    simp; omega
/-- Another name among one more. -/
theorem findGo_other (st t : ByteArray) (hne : t ≠ st) : ∀ (l : List ByteArray) (m q : Nat), m ≤ l.length → findGo t (l.take m ++ [st] ++ l.drop m) q = if findGo t l q = -1 then -1 else if findGo t l q < q + m then findGo t l q else findGo t l q + 1
  | l, 0, q, _ => by
    rw [List.take_zero, List.drop_zero, List.nil_append, List.singleton_append, findGo, if_neg (fun e => hne e.symm)]
    have h1 := findGo_shift t l (q + 1)
    have h2 := findGo_shift t l q
    rcases findGo_ge t l 0 with h | ⟨h, _⟩
    · rw [h1, h2, h]; simp
    · have h4 : ¬ findGo t l 0 = -1 := by omega
      rw [h1, h2, if_neg h4, if_neg h4, if_neg (by omega), if_neg (by omega)]; omega
  | [], m + 1, q, h => by simp at h
  | x :: xs, m + 1, q, h => by
    rw [List.take_succ_cons, List.drop_succ_cons, List.cons_append, List.cons_append, findGo, findGo]
    by_cases hx : x = t
    · rw [if_pos hx, if_pos hx, if_neg (by omega), if_pos (by omega)]
    · rw [if_neg hx, if_neg hx, findGo_other st t hne xs m (q + 1) (by simpa using h)]
      have e : ((q + 1 : Nat) : Int) + (m : Int) = (q : Int) + ((m + 1 : Nat) : Int) := by omega
      rw [e]
/-- The place stays where the item is put. -/
theorem place_kept {k n : Int} {s : ByteArray} {ns : List ByteArray} {is : List JV} {left : Nat} (hf : FormedP (.mk k n s ns is) left) {st : ByteArray} {K : Nat} (hK : placeP (.mk k n s ns is) st = K) (z : JV) : K < is.length ∧ placeP (.mk k 0 ⟨#[]⟩ ns (is.take K ++ [z] ++ is.drop (K + 1))) st = K := by
  have h1 := place_lt hf (st := st) (by rw [hK]; omega)
  rw [hK, Int.toNat_natCast] at h1
  refine ⟨h1, ?_⟩
  rw [set_mid _ _ _ h1]
  rw [placeP] at hK ⊢
  rw [List.length_set]
  exact hK
end Go.Proofs.YtkjjafijmpacpaaDoor
