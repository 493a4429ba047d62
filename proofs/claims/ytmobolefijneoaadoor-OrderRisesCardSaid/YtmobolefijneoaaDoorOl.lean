/-
  Plain: sorting values: insertion, merging, rows that are sorted in part.
-/
import Derived.Test.YtmobolefijneoaaDoorOg
set_option linter.unusedVariables false
namespace Go.Proofs.YtmobolefijneoaaDoor
open Go.RowKit

/-- A value is not above another. -/
def leJ (a b : JV) : Prop := cmpJ a b ≤ 0
theorem leJ_refl (a : JV) : leJ a a := by unfold leJ; rw [cmpJ_self]; omega
theorem leJ_trans {a b c : JV} (h : leJ a b) (h2 : leJ b c) : leJ a c := by
  unfold leJ at *
  obtain ⟨t1, t2, t3⟩ := (cmpJ_tri a b c).split
  have r1 := cmpJ_range a b
  have r2 := cmpJ_range b c
  by_cases e1 : cmpJ a b = 0
  · rw [t1 e1]; exact h2
  · by_cases e2 : cmpJ b c = 0
    · rw [t2 e2]; exact h
    · have : cmpJ a b = cmpJ b c := by omega
      rw [t3 this]; exact h
theorem leJ_of_lt {a b : JV} (h : cmpJ a b < 0) : leJ a b := by unfold leJ; omega
theorem leJ_of_not {a b : JV} (h : ¬ cmpJ a b < 0) : leJ b a := by unfold leJ; have := cmpJ_neg a b; omega
/-- The i-th of a list, a nought behind its end. -/
def jat (l : List JV) (i : Nat) : JV := l.getD i (.mk 0 0 ⟨#[]⟩ [] [])
theorem jat_lt {l : List JV} {i : Nat} (h : i < l.length) : jat l i = l[i] := by unfold jat; rw [List.getD_eq_getElem?_getD, List.getElem?_eq_getElem h]; rfl
/-- Sorted from a up to b. -/
def SortOn (l : List JV) (a b : Nat) : Prop := ∀ i k, a ≤ i → i < k → k < b → leJ (jat l i) (jat l k)
theorem SortOn.mono {l : List JV} {a b a' b' : Nat} (h : SortOn l a b) (h1 : a ≤ a') (h2 : b' ≤ b) : SortOn l a' b' := fun i k hi hk hb => h i k (by omega) hk (by omega)
theorem SortOn.few {l : List JV} {a b : Nat} (h : b ≤ a + 1) : SortOn l a b := fun i k hi hk hb => by omega
/-- Both exchanged. -/
def swapL (l : List JV) (i k : Nat) : List JV := (l.set i (jat l k)).set k (jat l i)
theorem swapL_len (l : List JV) (i k : Nat) : (swapL l i k).length = l.length := by unfold swapL; simp
theorem jat_set {l : List JV} {i : Nat} (x : JV) (h : i < l.length) (q : Nat) : jat (l.set i x) q = if q = i then x else jat l q := by
  unfold jat
  rw [List.getD_eq_getElem?_getD, List.getElem?_set, List.getD_eq_getElem?_getD]
  by_cases e : i = q
  · subst e; rw [if_pos rfl, if_pos h, if_pos rfl]; rfl
  · rw [if_neg e, if_neg (fun h => e h.symm)]
theorem jat_swap {l : List JV} {i k : Nat} (hi : i < l.length) (hk : k < l.length) (q : Nat) : jat (swapL l i k) q = if q = k then jat l i else if q = i then jat l k else jat l q := by
  unfold swapL
  rw [jat_set _ (by simpa using hk)]
  split
  · rfl
  · rw [jat_set _ hi]
theorem swap_perm {l : List JV} {i k : Nat} (hi : i < l.length) (hk : k < l.length) : (swapL l i k).Perm l := by
  unfold swapL
  rw [jat_lt hi, jat_lt hk]
  exact List.set_set_perm hi hk
/-- From l to m only what lies from a up to b was moved about. -/
structure Moved (l m : List JV) (a b : Nat) : Prop where
  perm : m.Perm l
  out : ∀ q, q < a ∨ b ≤ q → jat m q = jat l q
theorem Moved.refl (l : List JV) (a b : Nat) : Moved l l a b := ⟨.refl _, fun _ _ => rfl⟩
theorem Moved.trans {l m n : List JV} {a b : Nat} (h : Moved l m a b) (k : Moved m n a b) : Moved l n a b := ⟨k.perm.trans h.perm, fun q hq => (k.out q hq).trans (h.out q hq)⟩
theorem Moved.mono {l m : List JV} {a b a' b' : Nat} (h : Moved l m a b) (h1 : a' ≤ a) (h2 : b ≤ b') : Moved l m a' b' := ⟨h.perm, fun q hq => h.out q (by omega)⟩
theorem Moved.len {l m : List JV} {a b : Nat} (h : Moved l m a b) : m.length = l.length := h.perm.length_eq
theorem Moved.swap {l : List JV} {a b i k : Nat} (hi : a ≤ i) (hi' : i < b) (hk : a ≤ k) (hk' : k < b) (hb : b ≤ l.length) : Moved l (swapL l i k) a b :=
  ⟨swap_perm (by omega) (by omega), fun q hq => by rw [jat_swap (by omega) (by omega), if_neg (by omega), if_neg (by omega)]⟩
/-- What holds of all that lay from a up to b holds still. -/
theorem Moved.all {l m : List JV} {a b : Nat} (h : Moved l m a b) (hb : b ≤ l.length) {P : JV → Prop} (hP : ∀ q, a ≤ q → q < b → P (jat l q)) : ∀ q, a ≤ q → q < b → P (jat m q) := by
  have hlen := h.len
  have piece : ∀ (x : List JV) (q : Nat), a ≤ q → q < b → b ≤ x.length → jat x q ∈ (x.drop a).take (b - a) := fun x q h1 h2 h3 => by
    rw [jat_lt (by omega)]
    refine List.mem_iff_getElem.2 ⟨q - a, by simp; omega, ?_⟩
    simp only [List.getElem_take, List.getElem_drop]
    congr 1; omega
  have same1 : m.take a = l.take a := by
    apply List.ext_getElem?
    intro i
    rw [List.getElem?_take, List.getElem?_take]
    split
    · by_cases hi : i < l.length
      · have := h.out i (by omega)
        rw [jat_lt (by omega), jat_lt (by omega)] at this
        rw [List.getElem?_eq_getElem (by omega), List.getElem?_eq_getElem (by omega), this]
      · rw [List.getElem?_eq_none (by omega), List.getElem?_eq_none (by omega)]
    · rfl
  have same2 : m.drop b = l.drop b := by
    apply List.ext_getElem?
    intro i
    rw [List.getElem?_drop, List.getElem?_drop]
    by_cases hi : b + i < l.length
    · have := h.out (b + i) (by omega)
      rw [jat_lt (by omega), jat_lt (by omega)] at this
      rw [List.getElem?_eq_getElem (by omega), List.getElem?_eq_getElem (by omega), this]
    · rw [List.getElem?_eq_none (by omega), List.getElem?_eq_none (by omega)]
  have cut : ∀ x : List JV, a ≤ b → x = x.take a ++ ((x.drop a).take (b - a) ++ x.drop b) := fun x hab => by
    have e : (x.drop a).drop (b - a) = x.drop b := by rw [List.drop_drop]; congr 1; omega
    rw [← e, List.take_append_drop, List.take_append_drop]
  intro q h1 h2
  have hp := h.perm
  rw [cut m (by omega), cut l (by omega), same1, same2] at hp
  have hp2 := (List.perm_append_left_iff _).1 hp
  have hp3 := (List.perm_append_right_iff _).1 hp2
  have hm := hp3.mem_iff.1 (piece m q h1 h2 (by omega))
  obtain ⟨i, hi, e⟩ := List.mem_iff_getElem.1 hm
  simp only [List.getElem_take, List.getElem_drop] at e
  simp at hi
  have := hP (a + i) (by omega) (by omega)
  rw [jat_lt (by omega), e] at this
  exact this

/-- Sorted up to i, but for the one at j. -/
def InsAt (l : List JV) (a i j : Nat) : Prop := ∀ p q, a ≤ p → p < q → q ≤ i → q ≠ j → leJ (jat l p) (jat l q)
theorem InsAt.start {l : List JV} {a i : Nat} (h : SortOn l a i) : InsAt l a i i := fun p q h1 h2 h3 h4 => h p q h1 h2 (by omega)
theorem InsAt.step {l : List JV} {a i j : Nat} (h : InsAt l a i j) (hj : a < j) (hji : j ≤ i) (hi : i < l.length) (hc : cmpJ (jat l j) (jat l (j - 1)) < 0) : InsAt (swapL l j (j - 1)) a i (j - 1) := fun p q h1 h2 h3 h4 => by
  rw [jat_swap (by omega) (by omega), jat_swap (by omega) (by omega)]
  by_cases hq : q = j
  · rw [if_neg (by omega : ¬ q = j - 1), if_pos hq]
    by_cases hp : p = j - 1
    · rw [if_pos hp]; exact leJ_of_lt hc
    · rw [if_neg hp, if_neg (by omega)]; exact h p (j - 1) h1 (by omega) (by omega) (by omega)
  · rw [if_neg h4, if_neg hq]
    by_cases hp : p = j - 1
    · rw [if_pos hp]; exact h j q (by omega) (by omega) h3 hq
    · rw [if_neg hp]
      by_cases hp2 : p = j
      · rw [if_pos hp2]; exact h (j - 1) q (by omega) (by omega) h3 hq
      · rw [if_neg hp2]; exact h p q h1 h2 h3 hq
theorem InsAt.done {l : List JV} {a i j : Nat} (h : InsAt l a i j) (hji : j ≤ i) (he : j ≤ a ∨ ¬ cmpJ (jat l j) (jat l (j - 1)) < 0) : SortOn l a (i + 1) := fun p q h1 h2 h3 => by
  by_cases hq : q = j
  · subst hq
    rcases he with he | he
    · omega
    · have h0 := leJ_of_not he
      by_cases hp : p = q - 1
      · rw [hp]; exact h0
      · exact leJ_trans (h p (q - 1) h1 (by omega) (by omega) (by omega)) h0
  · exact h p q h1 h2 (by omega) hq

/-- One value goes up a sorted row: it stands at k, and will stand ahead of t. -/
def UpAt (l : List JV) (a b k t : Nat) : Prop := (∀ p q, a ≤ p → p < q → q < b → p ≠ k → q ≠ k → leJ (jat l p) (jat l q)) ∧ (∀ p, a ≤ p → p < t → p ≠ k → leJ (jat l p) (jat l k)) ∧ (∀ q, t ≤ q → q < b → leJ (jat l k) (jat l q))
theorem UpAt.step {l : List JV} {a b k t : Nat} (h : UpAt l a b k t) (hk : a ≤ k) (ht : k + 1 < t) (hb : t ≤ b) (hl : b ≤ l.length) : UpAt (swapL l k (k + 1)) a b (k + 1) t := by
  obtain ⟨h1, h2, h3⟩ := h
  have sw := jat_swap (l := l) (i := k) (k := k + 1) (by omega) (by omega)
  refine ⟨fun p q a1 a2 a3 a4 a5 => ?_, fun p a1 a2 a3 => ?_, fun q a1 a2 => ?_⟩
  · rw [sw, sw, if_neg a4, if_neg a5]
    by_cases hp : p = k
    · rw [if_pos hp, if_neg (by omega)]; exact h1 (k + 1) q (by omega) (by omega) a3 (by omega) (by omega)
    · rw [if_neg hp]
      by_cases hq : q = k
      · rw [if_pos hq]; exact h1 p (k + 1) a1 (by omega) (by omega) hp (by omega)
      · rw [if_neg hq]; exact h1 p q a1 a2 a3 hp hq
  · rw [sw, sw, if_neg a3, if_pos rfl]
    by_cases hp : p = k
    · rw [if_pos hp]; exact h2 (k + 1) (by omega) (by omega) (by omega)
    · rw [if_neg hp]; exact h2 p a1 a2 hp
  · rw [sw, sw, if_pos rfl, if_neg (by omega), if_neg (by omega)]
    exact h3 q a1 a2
theorem UpAt.done {l : List JV} {a b k t : Nat} (h : UpAt l a b k t) (ht : t = k + 1) : SortOn l a b := fun p q h1 h2 h3 => by
  by_cases hp : p = k
  · rw [hp]; exact h.2.2 q (by omega) h3
  · by_cases hq : q = k
    · rw [hq]; exact h.2.1 p h1 (by omega) hp
    · exact h.1 p q h1 h2 h3 hp hq
/-- One value goes down a sorted row: it stands at k, and will stand at t. -/
def DownAt (l : List JV) (a b k t : Nat) : Prop := (∀ p q, a ≤ p → p < q → q < b → p ≠ k → q ≠ k → leJ (jat l p) (jat l q)) ∧ (∀ p, a ≤ p → p < t → leJ (jat l p) (jat l k)) ∧ (∀ q, t ≤ q → q < b → q ≠ k → leJ (jat l k) (jat l q))
theorem DownAt.step {l : List JV} {a b k t : Nat} (h : DownAt l a b k t) (hk : k < b) (ht : t < k) (hl : b ≤ l.length) (hat : a ≤ t) : DownAt (swapL l k (k - 1)) a b (k - 1) t := by
  obtain ⟨h1, h2, h3⟩ := h
  have sw := jat_swap (l := l) (i := k) (k := k - 1) (by omega) (by omega)
  refine ⟨fun p q a1 a2 a3 a4 a5 => ?_, fun p a1 a2 => ?_, fun q a1 a2 a3 => ?_⟩
  · rw [sw, sw, if_neg a4, if_neg a5]
    by_cases hp : p = k
    · rw [if_pos hp, if_neg (by omega)]; exact h1 (k - 1) q (by omega) (by omega) a3 (by omega) (by omega)
    · rw [if_neg hp]
      by_cases hq : q = k
      · rw [if_pos hq]; exact h1 p (k - 1) a1 (by omega) (by omega) hp (by omega)
      · rw [if_neg hq]; exact h1 p q a1 a2 a3 hp hq
  · rw [sw, sw, if_pos rfl, if_neg (by omega), if_neg (by omega)]
    exact h2 p a1 a2
  · rw [sw, sw, if_pos rfl, if_neg a3]
    by_cases hq : q = k
    · rw [if_pos hq]; exact h3 (k - 1) (by omega) (by omega) (by omega)
    · rw [if_neg hq]; exact h3 q a1 a2 hq
theorem DownAt.done {l : List JV} {a b k t : Nat} (h : DownAt l a b k t) (ht : t = k) : SortOn l a b := fun p q h1 h2 h3 => by
  by_cases hp : p = k
  · rw [hp]; exact h.2.2 q (by omega) h3 (by omega)
  · by_cases hq : q = k
    · rw [hq]; exact h.2.1 p h1 (by omega)
    · exact h.1 p q h1 h2 h3 hp hq
/-- Two sorted halves, none of the first above one of the second. -/
theorem SortOn.join {l : List JV} {a m b : Nat} (h1 : SortOn l a m) (h2 : SortOn l m b) (h : ∀ p q, a ≤ p → p < m → m ≤ q → q < b → leJ (jat l p) (jat l q)) : SortOn l a b := fun p q a1 a2 a3 => by
  by_cases hp : p < m
  · by_cases hq : q < m
    · exact h1 p q a1 a2 hq
    · exact h p q a1 hp (by omega) a3
  · exact h2 p q (by omega) a2 a3
/-- Sorted lists of formed values that have the same members are the same. -/
theorem sorted_same : ∀ (l m : List JV) (left : Nat), (∀ x ∈ l, FormedP x left) → m.Perm l → SortOn l 0 l.length → SortOn m 0 m.length → l = m
  | [], m, left, _, hp, _, _ => (List.perm_nil.1 hp).symm
  | x :: l, [], left, _, hp, _, _ => by have := hp.length_eq; simp at this
  | x :: l, y :: m, left, hf, hp, h1, h2 => by
    have first : ∀ (x : JV) (l : List JV), SortOn (x :: l) 0 (x :: l).length → ∀ z ∈ x :: l, leJ x z := fun x l h z hz => by
      obtain ⟨i, hi, rfl⟩ := List.mem_iff_getElem.1 hz
      rcases Nat.eq_zero_or_pos i with h0 | h0
      · subst h0; exact leJ_refl _
      · have := h 0 i (Nat.le_refl _) h0 hi
        rw [jat_lt (by simp), jat_lt hi] at this
        exact this
    have tails : ∀ (x : JV) (l : List JV), SortOn (x :: l) 0 (x :: l).length → SortOn l 0 l.length := fun x l h i k h1 h2 h3 => by
      have := h (i + 1) (k + 1) (by omega) (by omega) (by simp; omega)
      rw [jat_lt (by simp; omega), jat_lt (by simp; omega)] at this
      rw [jat_lt (by omega), jat_lt (by omega)]
      simpa using this
    have e1 := first x l h1 y (hp.mem_iff.1 (by simp))
    have e2 := first y m h2 x (hp.mem_iff.2 (by simp))
    have e : x = y := by
      have h0 : cmpJ x y = 0 := by unfold leJ at e1 e2; have := cmpJ_neg x y; omega
      exact cmpJ_same x y left left (hf x (by simp)) (hf y (hp.mem_iff.1 (by simp))) h0
    subst e
    rw [sorted_same l m left (fun z hz => hf z (by simp [hz])) ((List.perm_cons x).1 hp) (tails x l h1) (tails x m h2)]
end Go.Proofs.YtmobolefijneoaaDoor
