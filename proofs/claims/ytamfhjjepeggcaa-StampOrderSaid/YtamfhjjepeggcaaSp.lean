/-
  Plain words of chapter 5: a name's bytes with every 0 marked, a number's eight bytes.
-/
set_option linter.unusedVariables false
namespace Go.Proofs.Ytamfhjjepeggcaa

/-- A name's bytes: behind each 0 stands 255. -/
def esc : List Int → List Int
  | [] => []
  | c :: r => if c = 0 then 0 :: 255 :: esc r else c :: esc r
theorem esc_app (a b : List Int) : esc (a ++ b) = esc a ++ esc b := by
  induction a with
  | nil => rfl
  | cons c r ih =>
    simp only [List.cons_append, esc]
    split <;> simp [ih]
theorem esc_len (a : List Int) : a.length ≤ (esc a).length ∧ (esc a).length ≤ 2 * a.length := by
  induction a with
  | nil => simp [esc]
  | cons c r ih =>
    simp only [esc]
    split <;> simp <;> omega
theorem take_snoc {α : Type} (l : List α) (k : Nat) (h : k < l.length) : l.take (k + 1) = l.take k ++ [l[k]] := by
  rw [List.take_succ_eq_append_getElem h]
theorem esc_zero (l : List Int) (k : Nat) (h : k < l.length) (h0 : l[k] = 0) : esc (l.take (k + 1)) = esc (l.take k) ++ [0] ++ [255] := by
  rw [take_snoc l k h, esc_app, h0]; simp [esc]
theorem esc_other (l : List Int) (k : Nat) (h : k < l.length) (h0 : l[k] ≠ 0) : esc (l.take (k + 1)) = esc (l.take k) ++ [l[k]] := by
  rw [take_snoc l k h, esc_app]; simp [esc, h0]
theorem esc_take_len (l : List Int) (k : Nat) : (esc (l.take k)).length ≤ 2 * l.length := by
  have h1 := (esc_len (l.take k)).2
  have h2 : (l.take k).length ≤ l.length := List.length_take_le' _ _
  omega

/-- What stands ahead of the time. -/
def frontL (sp : Int) (name : List Int) (mark : Int) : List Int := sp :: (esc name ++ [0, mark])
theorem frontL_len (sp : Int) (name : List Int) (mark : Int) : (frontL sp name mark).length = (esc name).length + 3 := by simp [frontL]

/-- A number's eight bytes. -/
def be64 (x : Int) : List Int :=
  [x / 72057594037927936 % 256, x / 281474976710656 % 256, x / 1099511627776 % 256, x / 4294967296 % 256, x / 16777216 % 256, x / 65536 % 256, x / 256 % 256, x % 256]
theorem be64_len (x : Int) : (be64 x).length = 8 := rfl
end Go.Proofs.Ytamfhjjepeggcaa
