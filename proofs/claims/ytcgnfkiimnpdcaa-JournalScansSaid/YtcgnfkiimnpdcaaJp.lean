/-
  Plain words: a record in sectors.
-/
import Derived.Test.YtcgnfkiimnpdcaaNh
import Derived.Test.YtcgnfkiimnpdcaaAz
set_option linter.unusedVariables false
namespace Go.Proofs.Ytcgnfkiimnpdcaa
open Go.RowKit

theorem be64_oct (x : Int) : Oct (be64 x) := fun y hy => by
  simp only [be64, List.mem_cons, List.not_mem_nil, or_false] at hy
  omega
/-- How many sectors a record takes. -/
def partsN (n : Nat) : Nat := (n + 233) / 234
/-- A part of a record. -/
def piece (b : List Int) (p : Nat) : List Int := (b.drop (234 * p)).take 234
/-- How long a part is. -/
def plen (b : List Int) (p : Nat) : Nat := (piece b p).length
theorem plen_eq (b : List Int) (p : Nat) : plen b p = min 234 (b.length - 234 * p) := by unfold plen piece; rw [List.length_take, List.length_drop]
theorem plen_le (b : List Int) (p : Nat) : plen b p ≤ 234 := by rw [plen_eq]; omega
/-- A part's head. -/
def jhead (E : Int) (n r p m k : Nat) : List Int := be64 E ++ be32 n ++ be32 r ++ be16 p ++ be16 m ++ be16 k
theorem jhead_len (E : Int) (n r p m k : Nat) : (jhead E n r p m k).length = 22 := by
  unfold jhead
  simp only [List.length_append, be64_len, be32_len, be16_len]
/-- A part's sector. -/
def jsec (E : Int) (n r p : Nat) (b : List Int) : List Int := jhead E n r p (partsN b.length) (plen b p) ++ piece b p ++ zer (234 - plen b p)
theorem jsec_len (E : Int) (n r p : Nat) (b : List Int) : (jsec E n r p b).length = 256 := by
  have := plen_le b p
  unfold jsec
  rw [List.length_append, List.length_append, jhead_len, zer_len]
  show 22 + plen b p + _ = _
  omega
theorem jhead_oct (E : Int) (n r p m k : Nat) : Oct (jhead E n r p m k) :=
  (((((be64_oct E).app (be32_oct _)).app (be32_oct _)).app (be16_oct _)).app (be16_oct _)).app (be16_oct _)
theorem jsec_oct (E : Int) (n r p : Nat) (b : List Int) (h : Oct b) : Oct (jsec E n r p b) :=
  ((jhead_oct _ _ _ _ _ _).app ((h.drop _).take _)).app (zer_oct _)

/-- The two bytes of a sector from a place on, as a number. -/
def at16 (s : List Int) (i : Nat) : Nat := (s.getD i 0).toNat * 256 + (s.getD (i + 1) 0).toNat
/-- The bytes of the record that a sector has. -/
def body (s : List Int) : List Int := (s.drop 22).take (at16 s 20)
theorem jsec_take8 (E : Int) (n r p : Nat) (b : List Int) : (jsec E n r p b).take 8 = be64 E := by unfold jsec jhead be64; rfl
theorem jsec_parts (E : Int) (n r p : Nat) (b : List Int) (h : partsN b.length ≤ 65535) : at16 (jsec E n r p b) 18 = partsN b.length := by
  unfold at16 jsec jhead be64 be32 be16
  simp only [List.cons_append, List.nil_append, List.getD_cons_succ, List.getD_cons_zero]
  omega
theorem jsec_n (E : Int) (n r p : Nat) (b : List Int) : at16 (jsec E n r p b) 20 = plen b p := by
  have := plen_le b p
  unfold at16 jsec jhead be64 be32 be16
  simp only [List.cons_append, List.nil_append, List.getD_cons_succ, List.getD_cons_zero]
  omega
theorem jsec_body (E : Int) (n r p : Nat) (b : List Int) : body (jsec E n r p b) = piece b p := by
  unfold body
  rw [jsec_n]
  have e : (jsec E n r p b).drop 22 = piece b p ++ zer (234 - plen b p) := by
    unfold jsec
    rw [List.append_assoc, List.drop_left' (jhead_len _ _ _ _ _ _)]
  rw [e, List.take_left']
  rfl
end Go.Proofs.Ytcgnfkiimnpdcaa
