/-
  Plain: cmpJ is a total order; of formed values it tells only the same ones to be alike.
-/
import Derived.Test.YtmobolefijneoaaDoorOc
set_option linter.unusedVariables false
namespace Go.Proofs.YtmobolefijneoaaDoor
open Go.RowKit

/-- Three comparisons of three things in a row fit together. -/
def Tri (x y z : Int) : Prop := (x = 0 ∧ z = y) ∨ (y = 0 ∧ z = x) ∨ (x = y ∧ z = x) ∨ (x ≠ 0 ∧ y ≠ 0 ∧ x ≠ y)
/-- One of the three answers of a comparison. -/
def Sgn (x : Int) : Prop := x = -1 ∨ x = 0 ∨ x = 1
theorem Tri.split {x y z : Int} (h : Tri x y z) : (x = 0 → z = y) ∧ (y = 0 → z = x) ∧ (x = y → z = x) := by
  unfold Tri at h
  refine ⟨fun h1 => ?_, fun h1 => ?_, fun h1 => ?_⟩ <;> omega
theorem Tri.mk {x y z : Int} (h : (x = 0 → z = y) ∧ (y = 0 → z = x) ∧ (x = y → z = x)) : Tri x y z := by
  unfold Tri
  by_cases h1 : x = 0
  · exact .inl ⟨h1, h.1 h1⟩
  · by_cases h2 : y = 0
    · exact .inr (.inl ⟨h2, h.2.1 h2⟩)
    · by_cases h3 : x = y
      · exact .inr (.inr (.inl ⟨h3, h.2.2 h3⟩))
      · exact .inr (.inr (.inr ⟨h1, h2, h3⟩))
theorem Tri.lex {x y z x' y' z' : Int} (h : Tri x y z) (h' : x = 0 → y = 0 → Tri x' y' z') (hx : Sgn x) (hy : Sgn y) :
    Tri (if x ≠ 0 then x else x') (if y ≠ 0 then y else y') (if z ≠ 0 then z else z') := by
  obtain ⟨a, b, c⟩ := h.split
  by_cases h1 : x = 0
  · have hz := a h1
    subst h1 hz
    by_cases h2 : z = 0
    · subst h2; simpa using h' rfl rfl
    · simp only [ne_eq, not_true_eq_false, h2, not_false_eq_true, ↓reduceIte]
      refine Tri.mk ⟨fun _ => rfl, fun h => absurd h h2, fun h => h.symm⟩
  · by_cases h2 : y = 0
    · have hz := b h2
      subst h2 hz
      simp only [ne_eq, not_true_eq_false, h1, not_false_eq_true, ↓reduceIte]
      exact Tri.mk ⟨fun h => absurd h h1, fun _ => rfl, fun h => rfl⟩
    · simp only [ne_eq, h1, h2, not_false_eq_true, ↓reduceIte]
      refine Tri.mk ⟨fun h => absurd h h1, fun h => absurd h h2, fun h => ?_⟩
      have := c h
      subst this; rw [if_pos h1]
theorem neg_lex {x y x' y' : Int} (h : y = -x) (h' : x = 0 → y' = -x') : (if y ≠ 0 then y else y') = -(if x ≠ 0 then x else x') := by
  subst h
  by_cases hx : x = 0
  · subst hx; simpa using h'
  · rw [if_pos (by omega), if_pos hx]
theorem cmpI_tri (a b c : Int) : Tri (cmpI a b) (cmpI b c) (cmpI a c) := by
  unfold Tri
  rcases cmpI_cases a b with ⟨h1, e1⟩ | ⟨h1, e1⟩ | ⟨h1, e1⟩ <;> rcases cmpI_cases b c with ⟨h2, e2⟩ | ⟨h2, e2⟩ | ⟨h2, e2⟩ <;> rcases cmpI_cases a c with ⟨h3, e3⟩ | ⟨h3, e3⟩ | ⟨h3, e3⟩ <;> rw [e1, e2, e3] <;> omega
theorem cmpI_neg (a b : Int) : cmpI b a = - cmpI a b := by
  rcases cmpI_cases a b with ⟨h1, e1⟩ | ⟨h1, e1⟩ | ⟨h1, e1⟩ <;> rcases cmpI_cases b a with ⟨h2, e2⟩ | ⟨h2, e2⟩ | ⟨h2, e2⟩ <;> rw [e1, e2] <;> omega
theorem cmpL_cons (a b : UInt8) (x y : List UInt8) : cmpL (a :: x) (b :: y) = if cmpI a.toNat b.toNat ≠ 0 then cmpI a.toNat b.toNat else cmpL x y := by
  rw [cmpL]
  have e1 : a < b ↔ (a.toNat : Int) < b.toNat := by rw [UInt8.lt_iff_toNat_lt]; omega
  have e2 : b < a ↔ (b.toNat : Int) < a.toNat := by rw [UInt8.lt_iff_toNat_lt]; omega
  unfold cmpI
  by_cases h1 : (a.toNat : Int) < b.toNat
  · rw [if_pos (e1.2 h1), if_pos h1]; simp
  · rw [if_neg (fun h => h1 (e1.1 h)), if_neg h1]
    by_cases h2 : (b.toNat : Int) < a.toNat
    · rw [if_pos (e2.2 h2), if_pos h2]; simp
    · rw [if_neg (fun h => h2 (e2.1 h)), if_neg h2]; simp
theorem cmpL_tri : ∀ (a b c : List UInt8), Tri (cmpL a b) (cmpL b c) (cmpL a c)
  | [], [], [] => by simp [cmpL, Tri]
  | [], [], _ :: _ => by simp [cmpL, Tri]
  | [], _ :: _, [] => by simp [cmpL, Tri]
  | [], y :: ys, z :: zs => by
    have := cmpL_range (y :: ys) (z :: zs)
    simp only [cmpL]
    exact Tri.mk ⟨by omega, fun h => rfl, fun _ => rfl⟩
  | _ :: _, [], [] => by simp [cmpL, Tri]
  | _ :: _, [], _ :: _ => by simp [cmpL, Tri]
  | x :: xs, y :: ys, [] => by
    have := cmpL_range (x :: xs) (y :: ys)
    simp only [cmpL]
    exact Tri.mk ⟨fun h => rfl, by omega, fun h => h.symm⟩
  | x :: xs, y :: ys, z :: zs => by
    rw [cmpL_cons, cmpL_cons, cmpL_cons]
    exact Tri.lex (cmpI_tri _ _ _) (fun _ _ => cmpL_tri xs ys zs) (cmpI_range _ _) (cmpI_range _ _)
theorem cmpL_neg : ∀ (a b : List UInt8), cmpL b a = - cmpL a b
  | [], [] => rfl
  | [], _ :: _ => rfl
  | _ :: _, [] => rfl
  | x :: xs, y :: ys => by
    rw [cmpL_cons, cmpL_cons]
    exact neg_lex (cmpI_neg _ _) fun _ => cmpL_neg xs ys
theorem cmpS_tri (a b c : ByteArray) : Tri (cmpS a b) (cmpS b c) (cmpS a c) := cmpL_tri _ _ _
theorem cmpS_neg (a b : ByteArray) : cmpS b a = - cmpS a b := cmpL_neg _ _
theorem cmpS_eq {a b : ByteArray} (h : cmpS a b = 0) : a = b := by
  have := (cmpL_zero _ _).1 h
  cases a; cases b; simp only [ByteArray.mk.injEq]; exact Array.ext' this
theorem nameC_tri (ob : Bool) (a b c : ByteArray) : Tri (nameC ob a b) (nameC ob b c) (nameC ob a c) := by
  unfold nameC
  cases ob
  · simp [Tri]
  · exact cmpS_tri a b c
theorem nameC_neg (ob : Bool) (a b : ByteArray) : nameC ob b a = - nameC ob a b := by
  unfold nameC
  cases ob
  · rfl
  · exact cmpS_neg a b
theorem nameC_range (ob : Bool) (a b : ByteArray) : Sgn (nameC ob a b) := by
  unfold nameC
  cases ob
  · exact .inr (.inl rfl)
  · exact cmpS_range a b
theorem first_tri {x y z x' y' z' x'' y'' z'' : Int} (h : Tri x y z) (h' : Tri x' y' z') (h'' : Tri x'' y'' z'') (hx : Sgn x) (hy : Sgn y) (hx' : Sgn x') (hy' : Sgn y') (hx'' : Sgn x'') (hy'' : Sgn y'') :
    Tri (firstNZ [x, x', x'']) (firstNZ [y, y', y'']) (firstNZ [z, z', z'']) := by
  simp only [firstNZ]
  exact Tri.lex h (fun _ _ => Tri.lex h' (fun _ _ => Tri.lex h'' (fun _ _ => by simp [Tri]) hx'' hy'') hx' hy') hx hy
theorem first_neg {x y x' y' x'' y'' : Int} (h : y = -x) (h' : y' = -x') (h'' : y'' = -x'') : firstNZ [y, y', y''] = - firstNZ [x, x', x''] := by
  simp only [firstNZ]
  exact neg_lex h fun _ => neg_lex h' fun _ => neg_lex h'' fun _ => rfl
theorem first_zero {x x' x'' : Int} (h : firstNZ [x, x', x''] = 0) : x = 0 ∧ x' = 0 ∧ x'' = 0 := by
  simp only [firstNZ] at h
  by_cases h1 : x = 0
  · by_cases h2 : x' = 0
    · by_cases h3 : x'' = 0
      · exact ⟨h1, h2, h3⟩
      · simp [h1, h2, h3] at h
    · simp [h1, h2] at h
  · simp [h1] at h
theorem cmpI_eq {a b : Int} (h : cmpI a b = 0) : a = b := by
  rcases cmpI_cases a b with ⟨h1, e1⟩ | ⟨h1, e1⟩ | ⟨h1, e1⟩ <;> omega
mutual
theorem cmpJ_tri : ∀ (a b c : JV), Tri (cmpJ a b) (cmpJ b c) (cmpJ a c)
  | .mk k n s ns is, .mk k2 n2 s2 ns2 is2, .mk k3 n3 s3 ns3 is3 => by
    rw [cmpJ, cmpJ, cmpJ]
    refine Tri.lex (first_tri (cmpI_tri _ _ _) (cmpI_tri _ _ _) (cmpS_tri _ _ _) (cmpI_range _ _) (cmpI_range _ _) (cmpI_range _ _) (cmpI_range _ _) (cmpS_range _ _) (cmpS_range _ _)) (fun h1 h2 => ?_) (head_range _ _ _ _ _ _) (head_range _ _ _ _ _ _)
    have e1 := cmpI_eq (first_zero h1).1
    subst e1
    exact rows_tri _ is is2 is3 ns ns2 ns3
theorem rows_tri (ob : Bool) : ∀ (is is2 is3 : List JV) (ns ns2 ns3 : List ByteArray), Tri (rowsJ ob is is2 ns ns2) (rowsJ ob is2 is3 ns2 ns3) (rowsJ ob is is3 ns ns3)
  | [], [], [], _, _, _ => by simp [rowsJ, Tri]
  | [], [], _ :: _, _, _, _ => by simp [rowsJ, Tri]
  | [], _ :: _, [], _, _, _ => by simp [rowsJ, Tri]
  | [], y :: ys, z :: zs, _, ns2, ns3 => by
    have := rowsJ_range ob (y :: ys) (z :: zs) ns2 ns3
    generalize rowsJ ob (y :: ys) (z :: zs) ns2 ns3 = t at *
    simp only [rowsJ]
    exact Tri.mk ⟨by omega, fun h => rfl, fun _ => rfl⟩
  | _ :: _, [], [], _, _, _ => by simp [rowsJ, Tri]
  | _ :: _, [], _ :: _, _, _, _ => by simp [rowsJ, Tri]
  | x :: xs, y :: ys, [], ns, ns2, _ => by
    have := rowsJ_range ob (x :: xs) (y :: ys) ns ns2
    generalize rowsJ ob (x :: xs) (y :: ys) ns ns2 = t at *
    simp only [rowsJ]
    exact Tri.mk ⟨fun h => rfl, by omega, fun h => h.symm⟩
  | x :: xs, y :: ys, z :: zs, ns, ns2, ns3 => by
    rw [rowsJ, rowsJ, rowsJ]
    exact Tri.lex (nameC_tri _ _ _ _) (fun _ _ => Tri.lex (cmpJ_tri x y z) (fun _ _ => rows_tri ob xs ys zs _ _ _) (cmpJ_range _ _) (cmpJ_range _ _)) (nameC_range _ _ _) (nameC_range _ _ _)
end
mutual
theorem cmpJ_neg : ∀ (a b : JV), cmpJ b a = - cmpJ a b
  | .mk k n s ns is, .mk k2 n2 s2 ns2 is2 => by
    rw [cmpJ, cmpJ]
    refine neg_lex (first_neg (cmpI_neg _ _) (cmpI_neg _ _) (cmpS_neg _ _)) fun h1 => ?_
    have e1 := cmpI_eq (first_zero h1).1
    subst e1
    exact rows_neg _ is is2 ns ns2
theorem rows_neg (ob : Bool) : ∀ (is is2 : List JV) (ns ns2 : List ByteArray), rowsJ ob is2 is ns2 ns = - rowsJ ob is is2 ns ns2
  | [], [], _, _ => by simp [rowsJ]
  | [], _ :: _, _, _ => by simp [rowsJ]
  | _ :: _, [], _, _ => by simp [rowsJ]
  | x :: xs, y :: ys, ns, ns2 => by
    rw [rowsJ, rowsJ]
    exact neg_lex (nameC_neg _ _ _) fun _ => neg_lex (cmpJ_neg x y) fun _ => rows_neg ob xs ys _ _
end
theorem lex_zero {x x' : Int} (h : (if x ≠ 0 then x else x') = 0) : x = 0 ∧ x' = 0 := by
  by_cases h1 : x = 0
  · subst h1; simpa using h
  · rw [if_pos h1] at h; exact absurd h h1
mutual
theorem cmpJ_same : ∀ (a b : JV) (left left2 : Nat), FormedP a left → FormedP b left2 → cmpJ a b = 0 → a = b
  | .mk k n s ns is, .mk k2 n2 s2 ns2 is2, left, left2, hf, hf2, h => by
    rw [cmpJ] at h
    obtain ⟨h1, h2⟩ := lex_zero h
    obtain ⟨e1, e2, e3⟩ := first_zero h1
    have e1 := cmpI_eq e1
    have e2 := cmpI_eq e2
    have e3 := cmpS_eq e3
    subst e1 e2 e3
    rw [FormedP] at hf hf2
    obtain ⟨_, ho, _, ha⟩ := hf
    obtain ⟨_, ho2, _, ha2⟩ := hf2
    obtain ⟨g1, g2⟩ := rows_same (decide (k = 6)) is is2 ns ns2 _ _ ha ha2 h2
    subst g1
    have : ns = ns2 := by
      by_cases h6 : k = 6
      · exact g2 (by simpa using h6) ((ho.2.2.2.2.2.2 (by omega)).2.1 h6) ((ho2.2.2.2.2.2.2 (by omega)).2.1 h6)
      · have z1 : ns.length = 0 := by
          by_cases h5 : k < 5
          · exact (ho.2.2.2.2.2.1 h5).2
          · exact (ho.2.2.2.2.2.2 (by omega)).2.2 h6
        have z2 : ns2.length = 0 := by
          by_cases h5 : k < 5
          · exact (ho2.2.2.2.2.2.1 h5).2
          · exact (ho2.2.2.2.2.2.2 (by omega)).2.2 h6
        rw [List.eq_nil_of_length_eq_zero z1, List.eq_nil_of_length_eq_zero z2]
    subst this
    rfl
theorem rows_same (ob : Bool) : ∀ (is is2 : List JV) (ns ns2 : List ByteArray) (left left2 : Nat), FormedAll is left → FormedAll is2 left2 → rowsJ ob is is2 ns ns2 = 0 →
    is = is2 ∧ (ob = true → ns.length = is.length → ns2.length = is2.length → ns = ns2)
  | [], [], ns, ns2, _, _, _, _, _ => ⟨rfl, fun _ h h2 => by rw [List.eq_nil_of_length_eq_zero h, List.eq_nil_of_length_eq_zero h2]⟩
  | [], _ :: _, _, _, _, _, _, _, h => by simp [rowsJ] at h
  | _ :: _, [], _, _, _, _, _, _, h => by simp [rowsJ] at h
  | x :: xs, y :: ys, ns, ns2, left, left2, hf, hf2, h => by
    rw [rowsJ] at h
    obtain ⟨h1, h2⟩ := lex_zero h
    obtain ⟨h3, h4⟩ := lex_zero h2
    have e1 := cmpJ_same x y _ _ hf.1 hf2.1 h3
    obtain ⟨e2, g⟩ := rows_same ob xs ys _ _ _ _ hf.2 hf2.2 h4
    subst e1 e2
    refine ⟨rfl, fun ho hl hl2 => ?_⟩
    subst ho
    rcases ns with _ | ⟨a, ns⟩
    · simp at hl
    rcases ns2 with _ | ⟨b, ns2⟩
    · simp at hl2
    have hab : a = b := cmpS_eq h1
    have ht := g rfl (by simpa using hl) (by simpa using hl2)
    simp only [List.tail_cons] at ht
    rw [hab, ht]
end
theorem cmpJ_self (a : JV) : cmpJ a a = 0 := by have := cmpJ_neg a a; omega
theorem cmpJ_zero {a b : JV} {left left2 : Nat} (hf : FormedP a left) (hf2 : FormedP b left2) : cmpJ a b = 0 ↔ a = b :=
  ⟨cmpJ_same a b left left2 hf hf2, fun h => by subst h; exact cmpJ_self a⟩
end Go.Proofs.YtmobolefijneoaaDoor
