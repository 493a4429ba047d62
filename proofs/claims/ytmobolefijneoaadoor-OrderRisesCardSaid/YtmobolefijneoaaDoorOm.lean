/-
  Plain: two ranges exchanged, a row turned round, the merge of slices.symMerge.
-/
import Derived.Test.YtmobolefijneoaaDoorOl
set_option linter.unusedVariables false
namespace Go.Proofs.YtmobolefijneoaaDoor
open Go.RowKit

/-- The n values at a and the n values at b exchanged. -/
def SwapIs (l m : List JV) (a b n : Nat) : Prop := ∀ q, jat m q = if a ≤ q ∧ q < a + n then jat l (q - a + b) else if b ≤ q ∧ q < b + n then jat l (q - b + a) else jat l q
theorem SwapIs.zero (l : List JV) (a b : Nat) : SwapIs l l a b 0 := fun q => by rw [if_neg (by omega), if_neg (by omega)]
theorem SwapIs.step {l m : List JV} {a b n : Nat} (h : SwapIs l m a b n) (hab : a + n < b) (hb : b + n < m.length) : SwapIs l (swapL m (a + n) (b + n)) a b (n + 1) := fun q => by
  rw [jat_swap (by omega) (by omega)]
  by_cases h1 : q = b + n
  · rw [if_pos h1, if_neg (by omega), if_pos (by omega), h (a + n), if_neg (by omega), if_neg (by omega)]
    congr 1; omega
  · rw [if_neg h1]
    by_cases h2 : q = a + n
    · rw [if_pos h2, if_pos (by omega), h (b + n), if_neg (by omega), if_neg (by omega)]
      congr 1; omega
    · rw [if_neg h2, h q]
      by_cases h3 : a ≤ q ∧ q < a + n
      · rw [if_pos h3, if_pos (by omega)]
      · rw [if_neg h3, if_neg (by omega : ¬ (a ≤ q ∧ q < a + (n + 1)))]
        by_cases h4 : b ≤ q ∧ q < b + n
        · rw [if_pos h4, if_pos (by omega)]
        · rw [if_neg h4, if_neg (by omega)]
/-- What lies from m up to e stands ahead of what lies from s up to m. -/
def RotIs (l t : List JV) (s m e : Nat) : Prop := ∀ q, jat t q = if s ≤ q ∧ q < s + (e - m) then jat l (q + (m - s)) else if s + (e - m) ≤ q ∧ q < e then jat l (q - (e - m)) else jat l q
theorem RotIs.same (l : List JV) {s m e : Nat} (h : s = m ∧ m ≤ e ∨ e = m ∧ s ≤ m) : RotIs l l s m e := fun q => by
  rcases h with ⟨h, h'⟩ | ⟨h, h'⟩
  · subst h
    split
    · congr 1; omega
    · split
      · rename_i h1 h2; omega
      · rfl
  · subst h
    rw [if_neg (by omega)]
    split
    · congr 1; omega
    · rfl
theorem RotIs.ofSwap {l t : List JV} {a m i : Nat} (h : SwapIs l t a m i) (hi : a + i = m) : RotIs l t a m (m + i) := fun q => by
  rw [h q]
  by_cases h1 : a ≤ q ∧ q < a + i
  · rw [if_pos h1, if_pos (by omega)]; congr 1; omega
  · rw [if_neg h1]
    by_cases h2 : m ≤ q ∧ q < m + i
    · rw [if_pos h2, if_neg (by omega), if_pos (by omega)]; congr 1; omega
    · rw [if_neg h2, if_neg (by omega), if_neg (by omega)]
/-- One step of the turn: the longer block is ahead. -/
theorem RotIs.ahead {l l' t : List JV} {m i j : Nat} (hi : i ≤ m) (hj : j < i) (h : SwapIs l l' (m - i) m j) (ht : RotIs l' t (m - (i - j)) m (m + j)) : RotIs l t (m - i) m (m + j) := fun q => by
  rw [ht q]
  by_cases h1 : m - i ≤ q ∧ q < m - i + j
  · rw [if_neg (by omega), if_neg (by omega), if_pos (by omega), h q, if_pos (by omega)]; congr 1; omega
  · by_cases h2 : m - (i - j) ≤ q ∧ q < m - (i - j) + j
    · rw [if_pos (by omega), if_neg (by omega), if_pos (by omega), h (q + (m - (m - (i - j)))), if_neg (by omega), if_pos (by omega)]; congr 1; omega
    · by_cases h3 : m - (i - j) + j ≤ q ∧ q < m + j
      · rw [if_neg (by omega), if_pos (by omega), if_neg (by omega), if_pos (by omega), h (q - (m + j - m)), if_neg (by omega), if_neg (by omega)]
      · rw [if_neg (by omega), if_neg (by omega), if_neg (by omega), if_neg (by omega), h q, if_neg (by omega), if_neg (by omega)]
/-- The longer block is behind. -/
theorem RotIs.behind {l l' t : List JV} {m i j : Nat} (hi : i ≤ m) (hj : i < j) (h : SwapIs l l' (m - i) (m + j - i) i) (ht : RotIs l' t (m - i) m (m + (j - i))) : RotIs l t (m - i) m (m + j) := fun q => by
  rw [ht q]
  by_cases h1 : m - i ≤ q ∧ q < m - i + (j - i)
  · rw [if_pos (by omega), if_pos (by omega), h (q + (m - (m - i))), if_neg (by omega), if_neg (by omega)]
  · by_cases h2 : m - i + (j - i) ≤ q ∧ q < m + (j - i)
    · rw [if_neg (by omega), if_pos (by omega), if_pos (by omega), h (q - (m + (j - i) - m)), if_pos (by omega)]; congr 1; omega
    · by_cases h3 : m + (j - i) ≤ q ∧ q < m + j
      · rw [if_neg (by omega), if_neg (by omega), if_neg (by omega), if_pos (by omega), h q, if_neg (by omega), if_pos (by omega)]; congr 1; omega
      · rw [if_neg (by omega), if_neg (by omega), if_neg (by omega), if_neg (by omega), h q, if_neg (by omega), if_neg (by omega)]
/-- The search of symMerge: where it stands. -/
def SrchAt (l : List JV) (p lo r0 s r : Nat) : Prop := lo ≤ s ∧ s ≤ r ∧ r ≤ r0 ∧ (s = lo ∨ ¬ cmpJ (jat l (p - (s - 1))) (jat l (s - 1)) < 0) ∧ (r = r0 ∨ cmpJ (jat l (p - r)) (jat l r) < 0)
theorem SrchAt.start (l : List JV) (p : Nat) {lo r0 : Nat} (h : lo ≤ r0) : SrchAt l p lo r0 lo r0 := ⟨Nat.le_refl _, h, Nat.le_refl _, .inl rfl, .inl rfl⟩
theorem SrchAt.up {l : List JV} {p lo r0 s r c : Nat} (h : SrchAt l p lo r0 s r) (h1 : s ≤ c) (h2 : c < r) (hc : ¬ cmpJ (jat l (p - c)) (jat l c) < 0) : SrchAt l p lo r0 (c + 1) r :=
  ⟨by have := h.1; omega, by omega, h.2.2.1, .inr (by rw [Nat.add_sub_cancel]; exact hc), h.2.2.2.2⟩
theorem SrchAt.down {l : List JV} {p lo r0 s r c : Nat} (h : SrchAt l p lo r0 s r) (h1 : s ≤ c) (h2 : c < r) (hc : cmpJ (jat l (p - c)) (jat l c) < 0) : SrchAt l p lo r0 s c :=
  ⟨h.1, h1, by have := h.2.2.1; omega, h.2.2.2.1, .inr hc⟩
/-- The merge: behind the search and the turn both halves have two sorted parts, and none of the first half is above one of the second. -/
theorem merge_plain {l t : List JV} {a m b mid s e : Nat} (ham : a < m) (hmb : m < b) (hmid : mid = (a + b) / 2) (h1 : SortOn l a m) (h2 : SortOn l m b) (he : e = mid + m - s)
    (hs : SrchAt l (mid + m - 1) (if mid < m then mid + m - b else a) (if mid < m then mid else m) s s) (ht : RotIs l t s m e) :
    a ≤ s ∧ s ≤ m ∧ m ≤ e ∧ e ≤ b ∧ s ≤ mid ∧ mid ≤ e ∧ SortOn t a s ∧ SortOn t s mid ∧ SortOn t mid e ∧ SortOn t e b ∧ (∀ p q, a ≤ p → p < mid → mid ≤ q → q < b → leJ (jat t p) (jat t q)) := by
  obtain ⟨k1, _, k2, k3, k4⟩ := hs
  have hr : a ≤ s ∧ s ≤ m ∧ m ≤ e ∧ e ≤ b ∧ s ≤ mid ∧ mid ≤ e ∧ s + (e - m) = mid := by
    by_cases hm : mid < m
    · rw [if_pos hm] at k1 k2; omega
    · rw [if_neg hm] at k1 k2; omega
  obtain ⟨r1, r2, r3, r4, r5, r6, r7⟩ := hr
  -- none of the first half is above one of the second
  have hlow : ∀ p q, a ≤ p → p < s → e ≤ q → q < b → leJ (jat l p) (jat l q) := fun p q a1 a2 a3 a4 => by
    rcases k3 with k3 | k3
    · by_cases hm : mid < m
      · rw [if_pos hm] at k3; omega
      · rw [if_neg hm] at k3; omega
    · have h0 := leJ_of_not k3
      rw [show mid + m - 1 - (s - 1) = e by omega] at h0
      have x1 : leJ (jat l p) (jat l (s - 1)) := by
        by_cases hp : p = s - 1
        · rw [hp]; exact leJ_refl _
        · exact h1 p (s - 1) a1 (by omega) (by omega)
      have x2 : leJ (jat l e) (jat l q) := by
        by_cases hq : q = e
        · rw [hq]; exact leJ_refl _
        · exact h2 e q (by omega) (by omega) a4
      exact leJ_trans x1 (leJ_trans h0 x2)
  have hmidd : ∀ p q, m ≤ p → p < e → s ≤ q → q < m → leJ (jat l p) (jat l q) := fun p q a1 a2 a3 a4 => by
    rcases k4 with k4 | k4
    · by_cases hm : mid < m
      · rw [if_pos hm] at k4; omega
      · rw [if_neg hm] at k4; omega
    · have h0 := leJ_of_lt k4
      rw [show mid + m - 1 - s = e - 1 by omega] at h0
      have x1 : leJ (jat l p) (jat l (e - 1)) := by
        by_cases hp : p = e - 1
        · rw [hp]; exact leJ_refl _
        · exact h2 p (e - 1) a1 (by omega) (by omega)
      have x2 : leJ (jat l s) (jat l q) := by
        by_cases hq : q = s
        · rw [hq]; exact leJ_refl _
        · exact h1 s q (by omega) (by omega) a4
      exact leJ_trans x1 (leJ_trans h0 x2)
  have t1 : ∀ q, q < s → jat t q = jat l q := fun q hq => by rw [ht q, if_neg (by omega), if_neg (by omega)]
  have t2 : ∀ q, s ≤ q → q < mid → jat t q = jat l (q + (m - s)) := fun q a1 a2 => by rw [ht q, if_pos (by omega)]
  have t3 : ∀ q, mid ≤ q → q < e → jat t q = jat l (q - (e - m)) := fun q a1 a2 => by rw [ht q, if_neg (by omega), if_pos (by omega)]
  have t4 : ∀ q, e ≤ q → jat t q = jat l q := fun q hq => by rw [ht q, if_neg (by omega), if_neg (by omega)]
  refine ⟨r1, r2, r3, r4, r5, r6, fun i k a1 a2 a3 => ?_, fun i k a1 a2 a3 => ?_, fun i k a1 a2 a3 => ?_, fun i k a1 a2 a3 => ?_, fun p q a1 a2 a3 a4 => ?_⟩
  · rw [t1 i (by omega), t1 k a3]; exact h1 i k a1 a2 (by omega)
  · rw [t2 i a1 (by omega), t2 k (by omega) a3]; exact h2 _ _ (by omega) (by omega) (by omega)
  · rw [t3 i a1 (by omega), t3 k (by omega) a3]; exact h1 _ _ (by omega) (by omega) (by omega)
  · rw [t4 i a1, t4 k (by omega)]; exact h2 i k (by omega) a2 a3
  · by_cases hp : p < s
    · rw [t1 p hp]
      by_cases hq : q < e
      · rw [t3 q a3 hq]; exact h1 _ _ a1 (by omega) (by omega)
      · rw [t4 q (by omega)]; exact hlow p q a1 hp (by omega) a4
    · rw [t2 p (by omega) a2]
      by_cases hq : q < e
      · rw [t3 q a3 hq]; exact hmidd _ _ (by omega) (by omega) (by omega) (by omega)
      · rw [t4 q (by omega)]; exact h2 _ _ (by omega) (by omega) a4
/-- The two searches for one value's place. -/
def OneUp (l : List JV) (a m b i j : Nat) : Prop := m ≤ i ∧ i ≤ j ∧ j ≤ b ∧ (i = m ∨ cmpJ (jat l (i - 1)) (jat l a) < 0) ∧ (j = b ∨ ¬ cmpJ (jat l j) (jat l a) < 0)
theorem OneUp.done {l : List JV} {a b i : Nat} (h : OneUp l a (a + 1) b i i) (h2 : SortOn l (a + 1) b) : UpAt l a b a i := by
  obtain ⟨k1, _, k2, k3, k4⟩ := h
  refine ⟨fun p q a1 a2 a3 a4 a5 => h2 p q (by omega) a2 a3, fun p a1 a2 a3 => ?_, fun q a1 a2 => ?_⟩
  · rcases k3 with k3 | k3
    · omega
    · have h0 := leJ_of_lt k3
      by_cases hp : p = i - 1
      · rw [hp]; exact h0
      · exact leJ_trans (h2 p (i - 1) (by omega) (by omega) (by omega)) h0
  · rcases k4 with k4 | k4
    · omega
    · have h0 := leJ_of_not k4
      by_cases hq : q = i
      · rw [hq]; exact h0
      · exact leJ_trans h0 (h2 i q (by omega) (by omega) a2)
def OneDown (l : List JV) (a m i j : Nat) : Prop := a ≤ i ∧ i ≤ j ∧ j ≤ m ∧ (i = a ∨ ¬ cmpJ (jat l m) (jat l (i - 1)) < 0) ∧ (j = m ∨ cmpJ (jat l m) (jat l j) < 0)
theorem OneDown.done {l : List JV} {a m i : Nat} (h : OneDown l a m i i) (h1 : SortOn l a m) : DownAt l a (m + 1) m i := by
  obtain ⟨k1, _, k2, k3, k4⟩ := h
  refine ⟨fun p q a1 a2 a3 a4 a5 => h1 p q a1 a2 (by omega), fun p a1 a2 => ?_, fun q a1 a2 a3 => ?_⟩
  · rcases k3 with k3 | k3
    · omega
    · have h0 := leJ_of_not k3
      by_cases hp : p = i - 1
      · rw [hp]; exact h0
      · exact leJ_trans (h1 p (i - 1) a1 (by omega) (by omega)) h0
  · rcases k4 with k4 | k4
    · omega
    · have h0 := leJ_of_lt k4
      by_cases hq : q = i
      · rw [hq]; exact h0
      · exact leJ_trans h0 (h1 i q k1 (by omega) (by omega))
end Go.Proofs.YtmobolefijneoaaDoor
