/-
  munimentlaw02.awake; PathSteps: its walk.
-/
import Derived.Test.YtpnbmgfnnmmokaaDoorTa
import Derived.Test.YtpnbmgfnnmmokaaDoorUc
import Derived.Deep.QuietTactic
import Derived.BigQuiet
set_option linter.unusedVariables false
namespace Go.Proofs.YtpnbmgfnnmmokaaDoor
open Go.RowKit Go.Lib

theorem validW {w : World} (hT : Tabs w) : ∀ w', Below w.heap.size w w' → ∀ t : ByteArray, t.size ≤ 2000 → Calls Tryd.prog 52 #[.string t] w' fun e w'' => e = .returned (.bool (validD t.data.toList)) ∧ Below w'.heap.size w' w'' :=
  fun w' hb t ht => valid_any t w' (by omega) (hT.below hb)
theorem steps_ab : stepsP ⟨#[97, 46, 98]⟩ 4 0 0 [] = some [⟨#[97]⟩, ⟨#[98]⟩] := by kernel_rfl

end Go.Proofs.YtpnbmgfnnmmokaaDoor
