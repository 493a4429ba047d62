/-
  Plain: what Put answers; what Steps answers.
-/
import Derived.Test.YtkjjafijmpacpaaDoorWk
set_option linter.unusedVariables false
namespace Go.Proofs.YtkjjafijmpacpaaDoor
open Go.RowKit

def kindJ : JV → Int | .mk k _ _ _ _ => k
open Classical in
/-- What Put answers: its error, its value. -/
noncomputable def putX (v : JV) (s : ByteArray) (x : JV) : Int × JV := match stepsP s (s.size + 1) 0 0 [] with
  | none => (2, zeroJ)
  | some l => if FormedP v 6 ∧ FormedP x 6 ∧ kindJ v = 6 then (match putP l v x with
      | none => (4, zeroJ)
      | some j => if FormedP j 6 then (0, j) else (3, zeroJ)) else (2, zeroJ)
theorem steps_more (s : ByteArray) : ∀ (n k f : Nat) (out l : List ByteArray), stepsP s n k f out = some l → (∀ t ∈ out, t.size ≤ 2000) → out.length ≤ l.length ∧ ∀ t ∈ l, t.size ≤ 2000
  | 0, k, f, out, l, h, hs => by
    rw [stepsP] at h
    injection h with h
    subst h
    exact ⟨Nat.le_refl _, hs⟩
  | n + 1, k, f, out, l, h, hs => by
    rw [stepsP] at h
    split at h
    · exact steps_more s n _ _ _ _ h hs
    · split at h
      · cases h
      · rename_i hc
        have := steps_more s n _ _ _ _ h (fun t ht => by
          rcases List.mem_append.1 ht with h1 | h1
          · exact hs t h1
          · simp only [List.mem_singleton] at h1
            subst h1
            rw [ByteArray.size_extract]
            have : ¬ 60 < k - f := fun e => hc (.inr (.inl e))
            omega)
        rw [List.length_append] at this
        exact ⟨by have := this.1; omega, this.2⟩
theorem steps_some (s : ByteArray) : ∀ (n k f : Nat) (out l : List ByteArray), n = s.size + 1 - k → k ≤ s.size → (∀ t ∈ out, t.size ≤ 2000) → stepsP s n k f out = some l → l ≠ []
  | 0, k, f, out, l, hn, hk, _, h => by omega
  | n + 1, k, f, out, l, hn, hk, hs, h => by
    rw [stepsP] at h
    split at h
    · rename_i hc
      exact steps_some s n _ _ _ _ (by omega) (by omega) hs h
    · split at h
      · cases h
      · rename_i hc
        have := steps_more s n _ _ _ _ h (fun t ht => by
          rcases List.mem_append.1 ht with h1 | h1
          · exact hs t h1
          · simp only [List.mem_singleton] at h1
            subst h1
            rw [ByteArray.size_extract]
            have : ¬ 60 < k - f := fun e => hc (.inr (.inl e))
            omega)
        intro e
        rw [e, List.length_append] at this
        have := this.1
        simp at this
theorem steps_good {s : ByteArray} {l : List ByteArray} (h : stepsP s (s.size + 1) 0 0 [] = some l) : l ≠ [] ∧ ∀ t ∈ l, t.size ≤ 2000 :=
  ⟨steps_some s _ 0 0 [] l (by omega) (Nat.zero_le _) (by simp) h, (steps_more s _ 0 0 [] l h (by simp)).2⟩
theorem putX_bad {v x : JV} {s : ByteArray} {l : List ByteArray} (h : stepsP s (s.size + 1) 0 0 [] = some l) (hn : ¬ (FormedP v 6 ∧ FormedP x 6 ∧ kindJ v = 6)) : putX v s x = (2, zeroJ) := by
  rw [putX, h]
  exact if_neg hn
theorem putX_ok {v x : JV} {s : ByteArray} {l : List ByteArray} (h : stepsP s (s.size + 1) 0 0 [] = some l) (h1 : FormedP v 6) (h2 : FormedP x 6) (h3 : kindJ v = 6) {Q : Option JV} (hQ : putP l v x = Q) :
    (Q = none → putX v s x = (4, zeroJ)) ∧ ∀ j, Q = some j → (FormedP j 6 → putX v s x = (0, j)) ∧ (¬ FormedP j 6 → putX v s x = (3, zeroJ)) := by
  refine ⟨fun hq => ?_, fun j hq => ⟨fun hj => ?_, fun hj => ?_⟩⟩
  · rw [putX, h]; simp only [h1, h2, h3, and_self, ↓reduceIte]; rw [hQ, hq]
  · rw [putX, h]; simp only [h1, h2, h3, and_self, ↓reduceIte]; rw [hQ, hq]; simp only [hj, ↓reduceIte]
  · rw [putX, h]; simp only [h1, h2, h3, and_self, ↓reduceIte]; rw [hQ, hq]; simp only [hj, ↓reduceIte]
/-- Put's answer. -/
def PutsRes (X : Int × JV) (e : Ending) (w' : World) : Prop := ∃ z : LV, e = .returned (.tuple #[z.val, .int .i64 X.1]) ∧ z.At w' ∧ z.j = X.2
end Go.Proofs.YtkjjafijmpacpaaDoor
