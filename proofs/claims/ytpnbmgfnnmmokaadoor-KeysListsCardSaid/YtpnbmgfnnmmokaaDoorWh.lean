/-
  Plain: a step's number, its place in a value; the contracts of number and place, of path and of munimentref02.
-/
import Derived.Test.YtpnbmgfnnmmokaaDoorWg
import Derived.LoopTactic
set_option linter.unusedVariables false
namespace Go.Proofs.YtpnbmgfnnmmokaaDoor
open Go.RowKit

def numGo (s : ByteArray) : Nat → Nat → Nat → Int
  | 0, _, n => n
  | f + 1, i, n => if h : i < s.size then (if s[i].toNat < 48 ∨ 57 < s[i].toNat then -1 else numGo s f (i + 1) (n * 10 + (s[i].toNat - 48))) else n
/-- A step's number; -1: none. -/
def numP (s : ByteArray) : Int := if s.size = 0 ∨ 4 < s.size ∨ (∃ h : 1 < s.size, (s[0]'(Nat.lt_trans Nat.zero_lt_one h)).toNat = 48) then -1 else numGo s (s.size + 1) 0 0
def findGo (st : ByteArray) : List ByteArray → Nat → Int
  | [], _ => -1
  | x :: xs, q => if x = st then q else findGo st xs (q + 1)
/-- The place of a step in a value; -1: none. -/
def placeP : JV → ByteArray → Int
  | .mk k _ _ ns is, st => if k = 5 then (if numP st < is.length then numP st else -1) else if k = 6 then findGo st ns 0 else -1
def LeadIs (s : ByteArray) (b : Bool) : Prop := b = true ↔ ∃ h : 1 < s.size, (s[0]'(Nat.lt_trans Nat.zero_lt_one h)).toNat = 48
theorem pow_bound {n q : Nat} (h : n < 10 ^ q) (hq : q < 4) : n ≤ 999 := by
  have := Nat.pow_le_pow_right (show 0 < 10 by omega) (show q ≤ 3 by omega)
  have : 10 ^ 3 = 1000 := rfl
  omega
theorem findGo_ge (st : ByteArray) : ∀ (l : List ByteArray) (q : Nat), findGo st l q = -1 ∨ ((q : Int) ≤ findGo st l q ∧ findGo st l q < (q + l.length : Nat))
  | [], _ => .inl rfl
  | x :: xs, q => by
    rw [findGo]
    split
    · exact .inr ⟨by omega, by simp only [List.length_cons]; omega⟩
    · rcases findGo_ge st xs (q + 1) with h | ⟨h1, h2⟩
      · exact .inl h
      · exact .inr ⟨by omega, by simp only [List.length_cons]; omega⟩

end Go.Proofs.YtpnbmgfnnmmokaaDoor
