/-
  The contract of munimentref03.Plain (of formed values).
-/
import Derived.Test.YtpnbmgfnnmmokaaDoorOb
set_option linter.unusedVariables false
namespace Go.Proofs.YtpnbmgfnnmmokaaDoor
open Go.RowKit

theorem cmpI_ne {a b : Int} (h : a ≠ b) : cmpI a b ≠ 0 := by
  rcases cmpI_cases a b with ⟨_, h2⟩ | ⟨_, h2⟩ | ⟨h2, _⟩
  · omega
  · omega
  · exact absurd h2 h
theorem cmpI_self (a : Int) : cmpI a a = 0 := by simp [cmpI]
theorem cmpS_empty {s s2 : ByteArray} (h : s.toList = []) (h2 : s2.toList = []) : cmpS s s2 = 0 := by
  rw [ByteArray.toList_eq] at h h2
  unfold cmpS
  rw [h, h2]; rfl
theorem cmpJ_kind {k n k2 n2 : Int} {s s2 : ByteArray} {ns ns2 : List ByteArray} {is is2 : List JV} (h : k ≠ k2) : cmpJ (.mk k n s ns is) (.mk k2 n2 s2 ns2 is2) = cmpI k k2 := by
  have h1 := cmpI_ne h
  rw [cmpJ, show firstNZ [cmpI k k2, cmpI n n2, cmpS s s2] = cmpI k k2 by rw [firstNZ, if_pos h1], if_pos h1]
theorem cmpJ_low {k n n2 : Int} {s s2 : ByteArray} {ns ns2 : List ByteArray} (hk : k < 5) (hs : k ≠ 4 → s.toList = []) (hs2 : k ≠ 4 → s2.toList = []) (hn : k ≠ 3 → n = 0) (hn2 : k ≠ 3 → n2 = 0) :
    cmpJ (.mk k n s ns []) (.mk k n2 s2 ns2 []) = if k = 3 then cmpI n n2 else if k = 4 then cmpS s s2 else 0 := by
  rw [cmpJ, rowsJ]
  have e0 := cmpI_self k
  by_cases h3 : k = 3
  · have e2 := cmpS_empty (hs (by omega)) (hs2 (by omega))
    rw [if_pos h3, e0, e2]
    simp only [firstNZ]
    by_cases hc : cmpI n n2 = 0 <;> simp [hc]
  · have e1 : cmpI n n2 = 0 := by rw [hn h3, hn2 h3]; exact cmpI_self 0
    rw [if_neg h3, e0, e1]
    by_cases h4 : k = 4
    · rw [if_pos h4]
      simp only [firstNZ]
      by_cases hc : cmpS s s2 = 0 <;> simp [hc]
    · rw [if_neg h4, cmpS_empty (hs h4) (hs2 h4)]
      simp [firstNZ]
theorem cmpJ_rows {k : Int} {s s2 : ByteArray} {ns ns2 : List ByteArray} {is is2 : List JV} (hs : s.toList = []) (hs2 : s2.toList = []) : cmpJ (.mk k 0 s ns is) (.mk k 0 s2 ns2 is2) = rowsJ (decide (k = 6)) is is2 ns ns2 := by
  rw [cmpJ, cmpI_self, cmpI_self, cmpS_empty hs hs2]
  simp [firstNZ]
end Go.Proofs.YtpnbmgfnnmmokaaDoor
