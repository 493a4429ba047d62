/-
  go_calm C (facts) (arm): a region that draws its order, whose operations only read what lies in worlds of the class C, and whose calls leave worlds of C: walked once, in the order of the text (Derived/Deep/Quiet.lean's theorem at a class of one's own).
-/
import Derived.Test.YtkjjafijmpacpaaDoorKb
import Derived.Deep.Quiet
import Derived.Deep.QuietTactic
import Derived.BigQuiet
set_option linter.unusedVariables false
namespace Go.Proofs.YtkjjafijmpacpaaDoor
open Go.RowKit

theorem quiet_at {P : Program} {o : Oper} {a : Act} {C : World → Prop} {K : Act → Prop} {v : Value} (h1 : ∀ w, C w → o.quietAt P a C w v) (h2 : K (a.put o.dst v)) : o.quiet P a C K := ⟨v, h1, h2⟩
/-- From here on: all that was is as it was. -/
def Calm (w w' : World) : Prop := Below w.heap.size w w'
theorem Calm.start (w : World) : Calm w { w with drawn := w.drawn + 1 } := (Below.refl w.heap.size w).drew
theorem region_calm {P : Program} {id : Nat} {Q : Exit → Act → World → Prop} {a : Act} {w : World} {l : List Oper} (hm : P.follows .mixedOrders = true) (hB : Region.lexB .any l.toArray = true)
    (h : wpQuiet P l.toArray (Calm w) (fun a' => ∀ w', Calm w w' → Q .normal a' w') l a) : (Code.region id l.toArray true).wp P Q a w :=
  wp_region_quiet (C := Calm w) hm hB (Calm.start w) (by simpa using h)

macro "go_calm_step " "(" f:tactic ")" "(" t:tactic ")" : tactic => `(tactic|
  first
    | go_big_quiet_skip
    | (go_big_quiet_want
       apply quiet_at
       · intro w' hw'
         ($f:tactic)
         go_simp
         first
           | done
           | exact rfl
           | ($t:tactic)
       (try simp only [Act.put, List.setIfInBounds_toArray, List.set_cons_zero, List.set_cons_succ])
       go_big_quiet_on))
/-- go_calm (facts of the world w', which hw' tells to be calm) (arm at a call): leaves what stands behind, in the world w5, with hb5. -/
macro "go_calm " "(" f:tactic ")" "(" t:tactic ")" : tactic => `(tactic|
  (refine region_calm (by kernel_rfl) (by kernel_rfl) ?_
   repeat (go_calm_step ($f:tactic) ($t:tactic))
   refine wpQuiet_nil ?_
   intro $(Lean.mkIdent `w5):ident $(Lean.mkIdent `hb5):ident))
end Go.Proofs.YtkjjafijmpacpaaDoor
