/-
  The contract of path.put.
-/
import Derived.Test.YtkjjafijmpacpaaDoorWla
import Derived.Test.YtkjjafijmpacpaaDoorWlb
import Derived.Test.YtkjjafijmpacpaaDoorWlc
import Derived.Test.YtkjjafijmpacpaaDoorWld
import Derived.Test.YtkjjafijmpacpaaDoorCl
import Derived.LoopTactic
import Derived.Deep.Cut
import Derived.Deep.CutBlock
import Derived.Deep.DeepCutAuto
import Derived.Deep.RegionLaw
import Derived.Deep.RegionHeld3
import Derived.Deep.RegionWith
set_option linter.unusedVariables false
namespace Go.Proofs.YtkjjafijmpacpaaDoor
open Go.RowKit

theorem put_any : ∀ (l : List ByteArray) (v x : LV) (A : Option Addr) (c left : Nat) (w : World), v.At w → x.At w → FormedP v.j left → l ≠ [] → (∀ s ∈ l, s.size ≤ 2000) → Cells w w.heap.size A (l.map Value.string) → l.length ≤ c ∧ c ≤ 9223372036854775807 →
    Calls Tryd.prog 24 #[v.val, .slice A l.length c, x.val] w fun e w' => PutRes v x w.heap.size (putP l v.j x.j) e w' ∧ Below w.heap.size w w' := by
  intro l
  induction l with
  | nil => intro v x A c left w _ _ _ h; exact absurd rfl h
  | cons st rest ih =>
    intro v x A c left w hv hx hf _ hsz hl hc
    cases rest with
    | nil =>
      by_cases hK : 0 ≤ placeP v.j st
      · exact put_here st v x A c left w hv hx hf hsz hl hc hK
      · by_cases hE : namesJ v.j = []
        · exact put_ins st v x A c left w hv hx hf hsz hl hc hK hE
        · exact put_ins2 st v x A c left w hv hx hf hsz hl hc hK hE
    | cons st2 rest2 => exact put_more st st2 rest2 ih v x A c left w hv hx hf hsz hl hc
end Go.Proofs.YtkjjafijmpacpaaDoor
