/-
  Rows of strings that the call owns; the contracts of path.Steps and munimentref02.Steps.
-/
import Derived.Test.YtpnbmgfnnmmokaaDoorUb
set_option linter.unusedVariables false
namespace Go.Proofs.YtpnbmgfnnmmokaaDoor
open Go.RowKit Go.Lib

theorem info_str : (Tryd.prog.info? 9).map (fun i => (i.zero, i.size, i.bytes)) = some (some (.string ByteArray.empty), 1, 16) := by kernel_rfl
theorem get_byte (s : ByteArray) (k : Nat) (h : k < s.size) : s.data.toList.getD k 0 = s[k]'h := by
  rw [List.getD_eq_getElem?_getD, List.getElem?_eq_getElem (by rw [← size_eq]; exact h)]
  rfl
/-- A path's steps, from the byte k on. -/
def stepsP (s : ByteArray) : Nat → Nat → Nat → List ByteArray → Option (List ByteArray)
  | 0, _, _, out => some out
  | n + 1, k, from_, out =>
    if k < s.size ∧ s.data.toList.getD k 0 ≠ 46 then stepsP s n (k + 1) from_ out
    else if k = from_ ∨ 60 < k - from_ ∨ out.length = 4 ∨ validD (s.extract from_ k).data.toList = false then none
    else stepsP s n (k + 1) (k + 1) (out ++ [s.extract from_ k])
theorem row_below {w w' : World} {base : Nat} {e : TypeId} {size n : Nat} {v : Value} {xs : List Value} (h : w.ownsRow base e size v n xs) (hb : Below w.heap.size w w') : w'.ownsRow base e size v n xs :=
  World.ownsRow.kept (row := none) h ⟨hb.os, hb.tape, hb.output, hb.size, fun k hk _ => hb.block k hk⟩ (by cases v.ownBlock <;> simp)
theorem row_snoc {w : World} {base : Nat} {v : Value} {out : List ByteArray} {x : ByteArray} (h : w.ownsRow base 9 1 v (out.length + 1) (out.map Value.string ++ [.string x])) : w.ownsRow base 9 1 v (out ++ [x]).length ((out ++ [x]).map Value.string) := by
  rw [List.length_append, List.map_append]; exact h
theorem app_below {w w' : World} {base : Nat} {e : TypeId} {size n : Nat} {v v' : Value} {xs : List Value} {o : Obj} (h : w.ownsRow base e size v n xs) (hb : base ≤ w.heap.size) (hg : Grew (w.alloc o) v w' v') : Below base w w' :=
  ((Below.refl _ _).alloc hb o).grown hg.by_ (by simp; omega) fun g hgk => (h.lt g hgk).1
/-- What Steps answers. -/
def StepsRes (X : Option (List ByteArray)) (w : World) (e : Ending) (w' : World) : Prop :=
  (match X with
    | none => e = .returned (.tuple #[.slice none 0 0, .int .i64 2])
    | some out => ∃ v, e = .returned (.tuple #[v, .int .i64 0]) ∧ w'.ownsRow w.heap.size 9 1 v out.length (out.map Value.string)) ∧ Below w.heap.size w w'

end Go.Proofs.YtpnbmgfnnmmokaaDoor
