/-
  PathBack and PathOther: plain, at what Put and Get answer.
-/
import Derived.Test.YtkjjafijmpacpaaDoorWu
set_option linter.unusedVariables false
namespace Go.Proofs.YtkjjafijmpacpaaDoor
open Go.RowKit

mutual
theorem formed_up : ∀ (j : JV) (a b : Nat), a ≤ b → FormedP j a → FormedP j b
  | .mk k n s ns is, a, b, hab, h => by
    rw [FormedP] at h ⊢
    exact ⟨by omega, h.2.1, h.2.2.1, formed_upAll is (a - 1) (b - 1) (by omega) h.2.2.2⟩
theorem formed_upAll : ∀ (is : List JV) (a b : Nat), a ≤ b → FormedAll is a → FormedAll is b
  | [], _, _, _, _ => trivial
  | x :: xs, a, b, hab, h => ⟨formed_up x a b hab h.1, formed_upAll xs a b hab h.2⟩
end
/-- What is got of a formed value is formed. -/
theorem get_formed : ∀ (l : List ByteArray) (v y : JV) (left : Nat), FormedP v left → getP l v = some y → FormedP y left
  | [], v, y, left, hf, h => by
    rw [getP] at h
    injection h with h
    rw [← h]; exact hf
  | st :: rest, .mk k n s ns is, y, left, hf, h => by
    rw [getP] at h
    by_cases hK : 0 ≤ placeP (.mk k n s ns is) st
    · obtain ⟨K, hKK⟩ : ∃ K : Nat, placeP (.mk k n s ns is) st = K := ⟨(placeP (.mk k n s ns is) st).toNat, by omega⟩
      rw [hKK, itemP_at] at h
      cases hi : is[K]? with
      | none => rw [hi] at h; cases h
      | some z =>
        rw [hi] at h
        have h' : getP rest z = some y := h
        exact formed_up y (left - 1) left (by omega) (get_formed rest z y (left - 1) (formed_at hf hi) h')
    · rw [itemP_neg hK] at h; cases h
theorem putX_cases (v : JV) (s : ByteArray) (x : JV) : ((putX v s x).1 ≠ 0 ∧ (putX v s x).2 = zeroJ) ∨ ∃ l, stepsP s (s.size + 1) 0 0 [] = some l ∧ FormedP v 6 ∧ FormedP x 6 ∧ kindJ v = 6 ∧ putP l v x = some (putX v s x).2 ∧ FormedP (putX v s x).2 6 ∧ (putX v s x).1 = 0 := by
  cases hs : stepsP s (s.size + 1) 0 0 [] with
  | none =>
    left
    have e : putX v s x = (2, zeroJ) := by rw [putX, hs]
    rw [e]; exact ⟨by decide, rfl⟩
  | some l =>
    by_cases hc : FormedP v 6 ∧ FormedP x 6 ∧ kindJ v = 6
    · cases hq : putP l v x with
      | none => left; rw [(putX_ok hs hc.1 hc.2.1 hc.2.2 hq).1 rfl]; exact ⟨by decide, rfl⟩
      | some j =>
        have h := (putX_ok hs hc.1 hc.2.1 hc.2.2 hq).2 j rfl
        by_cases hj : FormedP j 6
        · right; rw [h.1 hj]; exact ⟨l, rfl, hc.1, hc.2.1, hc.2.2, hq, hj, rfl⟩
        · left; rw [h.2 hj]; exact ⟨by decide, rfl⟩
    · left; rw [putX_bad hs hc]; exact ⟨by decide, rfl⟩
theorem getX_of {v : JV} {s : ByteArray} {l : List ByteArray} (h : stepsP s (s.size + 1) 0 0 [] = some l) (hf : FormedP v 6) : getX v s = getP l v := by
  rw [getX, h]; exact if_pos hf
/-- PathBack: what is put is got, and formed. -/
theorem back_got {v x : JV} {s : ByteArray} (h : (putX v s x).1 = 0) : getX (putX v s x).2 s = some x ∧ FormedP (putX v s x).2 6 := by
  rcases putX_cases v s x with ⟨h1, _⟩ | ⟨l, h1, h2, h3, h4, h5, h6, _⟩
  · exact absurd h h1
  · rw [getX_of h1 h6]
    exact ⟨get_put l v x _ 6 h2 h5, h6⟩
/-- PathBack: what was there put again. -/
theorem back_was {v x was : JV} {s : ByteArray} (h : (putX v s x).1 = 0) (hg : getX v s = some was) : putX (putX v s x).2 s was = (0, v) := by
  rcases putX_cases v s x with ⟨h1, _⟩ | ⟨l, h1, h2, h3, h4, h5, h6, _⟩
  · exact absurd h h1
  · rw [getX_of h1 h2] at hg
    have hb := put_back l v x _ was 6 h2 h5 hg
    have hw := get_formed l v was 6 h2 hg
    have hk : kindJ (putX v s x).2 = 6 := by
      generalize (putX v s x).2 = j at *
      obtain ⟨k, n, t, ns, is⟩ := v
      rcases l with _ | ⟨st, rest⟩
      · rw [putP] at h5; cases h5
      · rw [putP] at h5
        have hput : ∀ z, putAt k ns is (placeP (.mk k n t ns is) st) st z = some j → kindJ j = k := fun z hz => by
          rw [putAt] at hz
          split at hz
          · injection hz with hz; rw [← hz]; rfl
          · split at hz
            · cases hz
            · injection hz with hz; rw [← hz]; rfl
        split at h5
        · exact (hput _ h5).trans h4
        · split at h5
          · cases h5
          · split at h5
            · cases h5
            · exact (hput _ h5).trans h4
    exact ((putX_ok h1 h6 hw hk hb).2 v rfl).1 h2
/-- PathOther. -/
theorem other_same {v x : JV} {s t : ByteArray} {st u : ByteArray} {lr mr : List ByteArray} (hs : stepsP s (s.size + 1) 0 0 [] = some (st :: lr)) (ht : stepsP t (t.size + 1) 0 0 [] = some (u :: mr)) (hne : u ≠ st) (h : (putX v s x).1 = 0) : getX (putX v s x).2 t = getX v t := by
  rcases putX_cases v s x with ⟨h1, _⟩ | ⟨l, h1, h2, h3, h4, h5, h6, _⟩
  · exact absurd h h1
  · rw [hs] at h1
    injection h1 with h1
    subst h1
    rw [getX_of ht h6, getX_of ht h2]
    exact get_other st u hne lr mr v x _ 6 h2 h4 h5
end Go.Proofs.YtkjjafijmpacpaaDoor
