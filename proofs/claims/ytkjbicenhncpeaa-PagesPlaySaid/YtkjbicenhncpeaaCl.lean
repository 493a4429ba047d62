/-
  A region that draws its order, whose operations only read what was, and whose calls make new blocks alone: walked once, in the order of the text (Derived/Deep/Quiet.lean's theorem at a class of one's own).
-/
import Derived.Test.YtkjbicenhncpeaaKb
import Derived.Deep.Quiet
import Derived.Deep.QuietTactic
import Derived.BigQuiet
set_option linter.unusedVariables false
namespace Go.Proofs.Ytkjbicenhncpeaa
open Go.RowKit

theorem quiet_at {P : Program} {o : Oper} {a : Act} {C : World → Prop} {K : Act → Prop} {v : Value} (h1 : ∀ w, C w → o.quietAt P a C w v) (h2 : K (a.put o.dst v)) : o.quiet P a C K := ⟨v, h1, h2⟩
/-- From here on: all that was is as it was. -/
def Calm (w w' : World) : Prop := Below w.heap.size w w'
theorem Calm.start (w : World) : Calm w { w with drawn := w.drawn + 1 } := (Below.refl w.heap.size w).drew
theorem region_calm {P : Program} {id : Nat} {Q : Exit → Act → World → Prop} {a : Act} {w : World} {l : List Oper} (hm : P.follows .mixedOrders = true) (hB : Region.lexB .any l.toArray = true)
    (h : wpQuiet P l.toArray (Calm w) (fun a' => ∀ w', Calm w w' → Q .normal a' w') l a) : (Code.region id l.toArray true).wp P Q a w :=
  wp_region_quiet (C := Calm w) hm hB (Calm.start w) (by simpa using h)

end Go.Proofs.Ytkjbicenhncpeaa
