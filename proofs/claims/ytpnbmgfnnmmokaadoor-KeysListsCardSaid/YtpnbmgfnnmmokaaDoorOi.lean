/-
  munimentlaw03.letters; OrderNumbers' arguments.
-/
import Derived.Test.YtpnbmgfnnmmokaaDoorWd
import Derived.Laws.BytesArg
import Derived.Shelf.Bytes.SlSmallAll
set_option linter.unusedVariables false
namespace Go.Proofs.YtpnbmgfnnmmokaaDoor
open Go.ChangeShapes Go.WideShapes Go.ChangeAt Go.RowKit Go.Joins Go.Deep

theorem conv_str (A : Option Addr) (a : List Int) (c : Nat) (w : World) (ha : Cells w w.heap.size A (U8 a)) :
    (convert 28 9 (.slice A a.length c)).run Tryd.prog w = .ok (.string (strOfNums a)) w := by
  rcases a with _ | ⟨x, r⟩
  · exact run_convert_bytes_zero w 28 5 Tryd.underlying28 Tryd.underlying5 A c 9 Tryd.underlying9
  · obtain ⟨b, off, rfl, _, hc⟩ := ha.form (by simp)
    refine run_convert_bytes_arg (P := Tryd.prog) w 28 5 Tryd.underlying28 Tryd.underlying5 b off _ c (x :: r) rfl (fun i hi => ?_) 9 Tryd.underlying9
    have e : (U8 (x :: r))[i]? = some (.int .u8 ((x :: r)[i]'hi)) := by rw [U8, List.getElem?_map, List.getElem?_eq_getElem hi]; rfl
    rw [hc i _ e, List.getD_eq_getElem?_getD, List.getElem?_eq_getElem hi]
    rfl
theorem text_small {l : List Int} (h : ∀ x ∈ l, 0 ≤ x ∧ x ≤ 127) (hl : l.length ≤ 60) : TextP (strOfNums l) := by
  refine ⟨by show (strOfNums l).data.size ≤ 60; rw [← Array.length_toList, strOfNums_data]; simpa using hl, ?_⟩
  rw [strOfNums_data]
  clear hl
  induction l with
  | nil => rfl
  | cons x r ih =>
    have hx := h x (.head _)
    rw [List.map_cons, Lib.validD_cons _ _ (by simp; omega)]
    exact ih fun y hy => h y (.tail _ hy)
theorem str_size {l : List Int} : (strOfNums l).size = l.length := by
  show (strOfNums l).data.size = _
  rw [← Array.length_toList, strOfNums_data]; simp
/-- The letters of some bytes. -/
def letL : List Int → List Int
  | [] => []
  | x :: r => (if 0 < x % 5 then [97 + x % 5] else []) ++ letL r
theorem letL_len : ∀ l : List Int, (letL l).length ≤ l.length
  | [] => Nat.le_refl _
  | x :: r => by
    have := letL_len r
    rw [letL, List.length_append, List.length_cons]
    split <;> simp <;> omega
theorem letL_range : ∀ l : List Int, ∀ x ∈ letL l, 98 ≤ x ∧ x ≤ 101
  | [], x, h => by cases h
  | y :: r, x, h => by
    rw [letL] at h
    rcases List.mem_append.1 h with h | h
    · split at h
      · simp at h; subst h; omega
      · cases h
    · exact letL_range r x h
theorem letL_text (x y z : Int) : TextP (strOfNums (letL [x, y, z])) :=
  text_small (fun t ht => by have := letL_range _ t ht; omega) (Nat.le_trans (letL_len _) (by simp))
theorem letL_size (x y z : Int) : (strOfNums (letL [x, y, z])).size ≤ 3 := by rw [str_size]; exact letL_len _
theorem array2' {α : Type} {a : Array α} (h : a.size = 2) : ∃ x y, a = #[x, y] := by
  rcases a with ⟨l⟩
  match l, h with
  | [x, y], _ => exact ⟨x, y, rfl⟩
theorem array6 {α : Type} {a : Array α} (h : a.size = 6) : ∃ x0 x1 x2 x3 x4 x5, a = #[x0, x1, x2, x3, x4, x5] := by
  rcases a with ⟨l⟩
  match l, h with
  | [x0, x1, x2, x3, x4, x5], _ => exact ⟨x0, x1, x2, x3, x4, x5, rfl⟩
/-- A byte. -/
def Byte (x : Int) : Prop := 0 ≤ x ∧ x ≤ 255
end Go.Proofs.YtpnbmgfnnmmokaaDoor
