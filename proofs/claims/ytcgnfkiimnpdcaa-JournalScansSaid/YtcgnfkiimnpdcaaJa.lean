/-
  The contracts of journal.Parts and journal.sector.
-/
import Derived.Test.YtcgnfkiimnpdcaaJp
import Derived.Test.YtcgnfkiimnpdcaaDf
import Derived.Deep.RegionHeld3
import Derived.StillTailTactics
set_option linter.unusedVariables false
namespace Go.Proofs.Ytcgnfkiimnpdcaa
open Go.RowKit

set_option maxHeartbeats 1000000 in
theorem parts_any (n : Nat) (w : World) (hn : n ≤ 9223372036854775807) :
    Calls Try.prog 22 #[.int .i64 n] w fun e w' => e = .returned (.int .i64 (partsN n)) ∧ w = w' := by
  by_cases h0 : n < 1
  · have e0 : n = 0 := by omega
    subst e0
    go_enter Try.func22, Try.ntmps22
    go_wp2
    go_ret
    exact ⟨rfl, rfl⟩
  · have HP : Hid (((n : Int) - 1) / 234 + 1 = (partsN n : Int)) := Lib.hid (by
      unfold partsN
      omega)
    go_enter Try.func22, Try.ntmps22
    go_wp2
    go_ret
    refine ⟨?_, rfl⟩
    rw [← HP.out]
    rfl
end Go.Proofs.Ytcgnfkiimnpdcaa
