/-
  DiskNil: the walk.
-/
import Derived.Test.YtaimohidpppfeaaDh
set_option linter.unusedVariables false
namespace Go.Proofs.Ytaimohidpppfeaa
open Go.RowKit

set_option maxHeartbeats 1000000 in
theorem nil_walk (n : Int) (w : World) (h0 : -9223372036854775808 ≤ n) (h1 : n ≤ 9223372036854775807) :
    Calls Try.prog 7 #[.int .i64 n] w fun e w' => e = .returned (.bool true) ∧ Below w.heap.size w w' := by
  go_enter Try.func7, Try.ntmps7
  go_wp2_with fail
  refine (awake_any w).mono ?_
  rintro e w1 ⟨rfl, hb1⟩
  go_wp2_with fail
  refine (fuse_nil n w1).mono ?_
  rintro e w2 ⟨rfl, rfl⟩
  go_wp2_with fail
  refine (read_nil n w1).mono ?_
  rintro e w2 ⟨rfl, rfl⟩
  go_wp2_with fail
  refine (cut_nil _ w1).mono ?_
  rintro e w2 ⟨g, F, rfl, hD, hF, hb2⟩
  have hb : Below w.heap.size w w2 := hb1.trans (hb2.mono hb1.size)
  clear hb1 hb2
  go_wp2_with fail
  refine (size_nil w2).mono ?_
  rintro e w3 ⟨rfl, rfl⟩
  go_wp2_with fail
  refine (down_nil w2).mono ?_
  rintro e w3 ⟨rfl, rfl⟩
  go_wp2_with fail
  refine (sector_any 0 w2).mono ?_
  rintro e w3 ⟨rfl, _, hb3⟩
  have hD3 := hD.below hb3
  have hb' : Below w.heap.size w w3 := hb.trans (hb3.mono hb.size)
  clear hb hb3 hD
  go_wp2_with fail
  refine (write_nil n _ w3).mono ?_
  rintro e w4 ⟨rfl, rfl⟩
  go_wp2_with fail
  refine (sync_nil w3).mono ?_
  rintro e w4 ⟨rfl, rfl⟩
  go_wp2_with fail
  refine (pending_nil w3).mono ?_
  rintro e w4 ⟨rfl, rfl⟩
  go_wp2_with fail
  refine (size_w g _ F w3 hD3).mono ?_
  rintro e w4 ⟨rfl, rfl⟩
  have hz : (newDS 0).size = 0 := by decide
  rw [hz]
  go_wp2_with fail
  refine (acts_nil w3).mono ?_
  rintro e w4 ⟨rfl, hb4⟩
  have he := eq3 0 0 0 0 0 0 w4
  have e0 : ((0 : Int) == 0 && (0 : Int) == 0 && (0 : Int) == 0) = true := by decide
  rw [e0] at he
  clear e0
  go_wp2
  go_ret
  exact ⟨rfl, hb'.trans (hb4.mono hb'.size)⟩
end Go.Proofs.Ytaimohidpppfeaa
