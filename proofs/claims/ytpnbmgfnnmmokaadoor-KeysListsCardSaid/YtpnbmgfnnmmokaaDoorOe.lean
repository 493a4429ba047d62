/-
  munimentlaw03.awake, few; OrderCompares: its walk.
-/
import Derived.Test.YtpnbmgfnnmmokaaDoorOd
set_option linter.unusedVariables false
namespace Go.Proofs.YtpnbmgfnnmmokaaDoor
open Go.RowKit

/-- A value of a kind, a number and a text, without members. -/
def leafV (k n : Int) (s : ByteArray) : LV := .mk k n s none [] 0 none [] 0
theorem leaf_at {k n : Int} {s : ByteArray} (w : World) (hk : 0 ≤ k ∧ k ≤ 6) (hn : -9223372036854775808 ≤ n ∧ n ≤ 9223372036854775807) (hs : s.size ≤ 9223372036854775807) : (leafV k n s).At w := by
  unfold leafV LV.At
  exact ⟨Cells.nil, Cells.nil, trivial, by omega, hn, hs, by simp, ⟨Nat.le_refl _, Nat.zero_le _⟩, ⟨Nat.le_refl _, Nat.zero_le _⟩⟩
theorem leaf_formed {k n : Int} {s : ByteArray} (hk : 0 ≤ k ∧ k ≤ 6) (hn : k ≠ 3 → n = 0) (hs : k ≠ 4 → s.toList = []) (ht : TextP s) : FormedP (leafV k n s).j 6 := by
  unfold leafV
  rw [LV.j, FormedP]
  exact ⟨by omega, ⟨hk.1, hk.2, hn, hs, ht, fun _ => ⟨rfl, rfl⟩, fun _ => ⟨Nat.zero_le _, fun _ => rfl, fun _ => rfl⟩⟩, fun i h => absurd h (by simp), trivial⟩
theorem text_empty : TextP ⟨#[]⟩ := ⟨by decide, by kernel_rfl⟩
theorem empty_list : (⟨#[]⟩ : ByteArray).toList = [] := by rw [ByteArray.toList_eq]
theorem cmpX_leaf {a b : JV} (ha : FormedP a 6) (hb : FormedP b 6) : cmpX a b = cmpJ a b := by rw [cmpX, if_pos ⟨ha, hb⟩]

/-- A row of values. -/
def RowAt (w : World) (A : Option Addr) (is : List LV) (c : Nat) : Prop := (LV.mk 0 0 ⟨#[]⟩ none [] 0 A is c).At w
theorem RowAt.below {w w' : World} {A : Option Addr} {is : List LV} {c : Nat} (h : RowAt w A is c) (hb : Below w.heap.size w w') : RowAt w' A is c := LV.At.below hb _ h
theorem RowAt.mk {w : World} {A : Option Addr} {is : List LV} {c : Nat} (hc : Cells w w.heap.size A (is.flatMap LV.cells)) (ha : LV.AllAt w is) (hl : is.length ≤ c ∧ c ≤ 9223372036854775807) : RowAt w A is c := by
  unfold RowAt LV.At
  exact ⟨Cells.nil, hc, ha, by omega, by omega, by decide, by simp, ⟨Nat.le_refl _, Nat.zero_le _⟩, hl⟩
theorem RowAt.cap {w : World} {A : Option Addr} {is : List LV} {c : Nat} (h : RowAt w A is c) : is.length ≤ c ∧ c ≤ 9223372036854775807 := by
  unfold RowAt LV.At at h
  exact h.2.2.2.2.2.2.2.2

end Go.Proofs.YtpnbmgfnnmmokaaDoor
