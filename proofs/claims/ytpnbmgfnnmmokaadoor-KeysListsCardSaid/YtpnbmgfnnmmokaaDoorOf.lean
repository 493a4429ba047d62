/-
  OrderCompares: its walk.
-/
import Derived.Test.YtpnbmgfnnmmokaaDoorOe
set_option linter.unusedVariables false
namespace Go.Proofs.YtpnbmgfnnmmokaaDoor
open Go.RowKit

theorem RowAt.two {w : World} {v v2 : LV} (h : v.At w) (h2 : v2.At w) : RowAt (w.alloc (.cells (v.cells ++ v2.cells).toArray 25)) (some ⟨w.heap.size, 0, none⟩) [v, v2] 2 := by
  have hb : Below w.heap.size w (w.alloc (.cells (v.cells ++ v2.cells).toArray 25)) := (Below.refl _ _).alloc (Nat.le_refl _) _
  refine RowAt.mk ?_ ⟨h.below hb _, h2.below hb _, trivial⟩ (by simp)
  rw [World.size_alloc]
  have := cells_blk w (v.cells ++ v2.cells).toArray 25
  simpa using this

end Go.Proofs.YtpnbmgfnnmmokaaDoor
