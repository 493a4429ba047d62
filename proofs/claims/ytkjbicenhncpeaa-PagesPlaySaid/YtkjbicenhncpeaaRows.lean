/-
  No cell of these rows narrows 'for every input' (looked for: loops, veiled, ifaces, maps, wideKeys, modest, calm, conditions, laid).
  DERIVED. THE GIVEN ROWS OF THIS SEAT. 2 by the template 'for every input the law returns true; each argument reads behind the call as it read before'; 0 by the template 'total and deterministic' (their statements: YtkjbicenhncpeaaTotals.lean).
  GIVEN WITH THE SEED: the statements are not yours to turn. If you find one false, say at which input.
  Laid BY PROGRAM, IN A SANDBOX (cutbox-rows.mjs): the forced cells as the released guide's own fill.sh prints them over the translation 28bbcdabe5c1f12c… (all of the seat's roots in one cut). By AI agents, Wed Nov 11 2026. No macro, syntax, notation, axiom, sorry.
-/
import Derived.Test.YtkjbicenhncpeaaChecked
import GoSem.Claim
import GoSem.ClaimJoined
import GoSem.ClaimMapViews
import Derived.JoinedTies
import Derived.KernelRfl
namespace Go.Proofs.Ytkjbicenhncpeaa
/- THE CELL 'sum', in the pinned program and in every row, IS THE sha256 OF THE DUMP (.gsa) THAT YtkjbicenhncpeaaProg.lean LOADS. Nothing in Lean hashes anything: it is a label: what it is worth is what the hold of that sum in a sandbox is worth. -/
noncomputable def Try.pinned : Pinned := { name := "ytkjbicenhncpeaa", sum := "28bbcdabe5c1f12c1ec62484e2190090ea3ea856a6f70416e418bb71cdd4eb72", checked := Try.checked }
namespace Rows
def none {H : Type} : Left H := { results := [], args := [] }

/-- 'munimentlaw10.PagesLost': WHATEVER THE INPUT: true; the input reads as it did. -/
def pagesLostSpec : ChangeSpec := { name := "pagesLost", fn := fun _ => fun
  | [d1, d2] => { results := [.lit (.bool true)], args := [d1, d2] }
  | _ => none }
def pagesLostRow : OpenClaim := { program := "ytkjbicenhncpeaa", sum := "28bbcdabe5c1f12c1ec62484e2190090ea3ea856a6f70416e418bb71cdd4eb72", func := "muniment/munimentlaw10.PagesLost", spec := "pagesLost", inPlace := ["sync/atomic.AddInt64", "slices.overlaps[int]"], apart := false }
def PagesLostSaid : Prop := pagesLostRow.holds Try.pinned (OpenSpec.ofChange pagesLostSpec)

/-- ITS FALSE NEIGHBOUR: 'it returns false'. Refute it at one input. -/
def pagesLostWrong : ChangeSpec := { name := "pagesLost", fn := fun _ => fun
  | [d1, d2] => { results := [.lit (.bool false)], args := [d1, d2] }
  | _ => none }
def PagesLostWrongFalsely : Prop := pagesLostRow.holds Try.pinned (OpenSpec.ofChange pagesLostWrong)

/-- 'munimentlaw10.PagesPlay': WHATEVER THE INPUT: true; the input reads as it did. -/
def pagesPlaySpec : ChangeSpec := { name := "pagesPlay", fn := fun _ => fun
  | [d1, d2, d3] => { results := [.lit (.bool true)], args := [d1, d2, d3] }
  | _ => none }
def pagesPlayRow : OpenClaim := { program := "ytkjbicenhncpeaa", sum := "28bbcdabe5c1f12c1ec62484e2190090ea3ea856a6f70416e418bb71cdd4eb72", func := "muniment/munimentlaw10.PagesPlay", spec := "pagesPlay", inPlace := ["sync/atomic.AddInt64", "slices.overlaps[int]"], apart := false }
def PagesPlaySaid : Prop := pagesPlayRow.holds Try.pinned (OpenSpec.ofChange pagesPlaySpec)

/-- ITS FALSE NEIGHBOUR: 'it returns false'. Refute it at one input. -/
def pagesPlayWrong : ChangeSpec := { name := "pagesPlay", fn := fun _ => fun
  | [d1, d2, d3] => { results := [.lit (.bool false)], args := [d1, d2, d3] }
  | _ => none }
def PagesPlayWrongFalsely : Prop := pagesPlayRow.holds Try.pinned (OpenSpec.ofChange pagesPlayWrong)

/- THE SECOND FORM. 'bulk': how many values and letters a reading holds, each counted each time it is reached (what is shared counts as often as it is met; a slice's spare places count too). A statement '..UptoSaid' is the law's where the arguments, and the package variables that the reading takes, are together of bulk at most 1048576: NARROWER than '..Said'. Prove '..Said' where nothing that the law and all that it calls make is longer than what came in: it says more and counts as full. Else prove '..UptoSaid'. A law counts once. -/
mutual
def uptoBulk {H : Type} : DataW H → Nat
  | .lit (.string bytes) => bytes.length + 1
  | .lit _ => 1
  | .nil => 1
  | .ptr d => uptoBulk d + 1
  | .slice elems spare => uptoBulkAll elems + uptoBulkAll spare + 1
  | .agg parts => uptoBulkAll parts + 1
  | .iface _ d => uptoBulk d + 1
  | .map entries => uptoBulkEntries entries + 1
  | .held _ => 1
def uptoBulkAll {H : Type} : List (DataW H) → Nat
  | [] => 0
  | d :: r => uptoBulk d + uptoBulkAll r
def uptoBulkEntries {H : Type} : List (Lit × DataW H) → Nat
  | [] => 0
  | x :: r => uptoBulkEntry x + uptoBulkEntries r
def uptoBulkEntry {H : Type} : Lit × DataW H → Nat
  | (.string bytes, d) => bytes.length + uptoBulk d + 1
  | (_, d) => uptoBulk d + 1
 end
def uptoSmall : (H : Type) → List (DataW H) → Bool := fun _ ds => decide (uptoBulkAll ds ≤ 1048576)
def OpenSpec.upto (s : _root_.Go.ChangeSpec) : _root_.Go.OpenSpec := { _root_.Go.OpenSpec.ofChange s with cond := some uptoSmall }

/-- 'munimentlaw10.PagesLost', WHERE WHAT IT READS IS OF BULK AT MOST 1048576: true; the input reads as it did. -/
def pagesLostUptoRow : OpenClaim := { program := "ytkjbicenhncpeaa", sum := "28bbcdabe5c1f12c1ec62484e2190090ea3ea856a6f70416e418bb71cdd4eb72", func := "muniment/munimentlaw10.PagesLost", spec := "pagesLost", inPlace := ["sync/atomic.AddInt64", "slices.overlaps[int]"], apart := false, narrowed := true }
def PagesLostUptoSaid : Prop := pagesLostUptoRow.holds Try.pinned (OpenSpec.upto pagesLostSpec)

/-- 'munimentlaw10.PagesPlay', WHERE WHAT IT READS IS OF BULK AT MOST 1048576: true; the input reads as it did. -/
def pagesPlayUptoRow : OpenClaim := { program := "ytkjbicenhncpeaa", sum := "28bbcdabe5c1f12c1ec62484e2190090ea3ea856a6f70416e418bb71cdd4eb72", func := "muniment/munimentlaw10.PagesPlay", spec := "pagesPlay", inPlace := ["sync/atomic.AddInt64", "slices.overlaps[int]"], apart := false, narrowed := true }
def PagesPlayUptoSaid : Prop := pagesPlayUptoRow.holds Try.pinned (OpenSpec.upto pagesPlaySpec)

end Rows
end Go.Proofs.Ytkjbicenhncpeaa
