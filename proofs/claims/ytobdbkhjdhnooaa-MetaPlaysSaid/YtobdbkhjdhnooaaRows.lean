/-
  No cell of these rows narrows 'for every input' (looked for: loops, veiled, ifaces, maps, wideKeys, modest, calm, conditions, laid).
  DERIVED. THE GIVEN ROWS OF THIS SEAT. 5 by the template 'for every input the law returns true; each argument reads behind the call as it read before'; 0 by the template 'total and deterministic' (their statements: YtobdbkhjdhnooaaTotals.lean).
  GIVEN WITH THE SEED: the statements are not yours to turn. If you find one false, say at which input.
  Laid BY PROGRAM, IN A SANDBOX (cutbox-rows.mjs): the forced cells as the released guide's own fill.sh prints them over the translation 40757d568d62ad02… (all of the seat's roots in one cut). By AI agents, Wed Nov 11 2026. No macro, syntax, notation, axiom, sorry.
-/
import Derived.Test.YtobdbkhjdhnooaaChecked
import GoSem.Claim
import GoSem.ClaimJoined
import GoSem.ClaimMapViews
import Derived.JoinedTies
import Derived.KernelRfl
namespace Go.Proofs.Ytobdbkhjdhnooaa
/- THE CELL 'sum', in the pinned program and in every row, IS THE sha256 OF THE DUMP (.gsa) THAT YtobdbkhjdhnooaaProg.lean LOADS. Nothing in Lean hashes anything: it is a label: what it is worth is what the hold of that sum in a sandbox is worth. -/
noncomputable def Try.pinned : Pinned := { name := "ytobdbkhjdhnooaa", sum := "40757d568d62ad024a997ca2a5e2a829f3059346fc1619afd538a5f1b5bc140b", checked := Try.checked }
namespace Rows
def none {H : Type} : Left H := { results := [], args := [] }

/-- 'munimentlaw08.MetaLimits': WHATEVER THE INPUT: true; the input reads as it did. -/
def metaLimitsSpec : ChangeSpec := { name := "metaLimits", fn := fun _ => fun
  | [d1, d2, d3] => { results := [.lit (.bool true)], args := [d1, d2, d3] }
  | _ => none }
def metaLimitsRow : OpenClaim := { program := "ytobdbkhjdhnooaa", sum := "40757d568d62ad024a997ca2a5e2a829f3059346fc1619afd538a5f1b5bc140b", func := "muniment/munimentlaw08.MetaLimits", spec := "metaLimits", inPlace := ["sync/atomic.AddInt64"], apart := false }
def MetaLimitsSaid : Prop := metaLimitsRow.holds Try.pinned (OpenSpec.ofChange metaLimitsSpec)

/-- ITS FALSE NEIGHBOUR: 'it returns false'. Refute it at one input. -/
def metaLimitsWrong : ChangeSpec := { name := "metaLimits", fn := fun _ => fun
  | [d1, d2, d3] => { results := [.lit (.bool false)], args := [d1, d2, d3] }
  | _ => none }
def MetaLimitsWrongFalsely : Prop := metaLimitsRow.holds Try.pinned (OpenSpec.ofChange metaLimitsWrong)

/-- 'munimentlaw08.MetaElder': WHATEVER THE INPUT: true; the input reads as it did. -/
def metaElderSpec : ChangeSpec := { name := "metaElder", fn := fun _ => fun
  | [d1, d2, d3] => { results := [.lit (.bool true)], args := [d1, d2, d3] }
  | _ => none }
def metaElderRow : OpenClaim := { program := "ytobdbkhjdhnooaa", sum := "40757d568d62ad024a997ca2a5e2a829f3059346fc1619afd538a5f1b5bc140b", func := "muniment/munimentlaw08.MetaElder", spec := "metaElder", inPlace := ["sync/atomic.AddInt64"], apart := false }
def MetaElderSaid : Prop := metaElderRow.holds Try.pinned (OpenSpec.ofChange metaElderSpec)

/-- ITS FALSE NEIGHBOUR: 'it returns false'. Refute it at one input. -/
def metaElderWrong : ChangeSpec := { name := "metaElder", fn := fun _ => fun
  | [d1, d2, d3] => { results := [.lit (.bool false)], args := [d1, d2, d3] }
  | _ => none }
def MetaElderWrongFalsely : Prop := metaElderRow.holds Try.pinned (OpenSpec.ofChange metaElderWrong)

/-- 'munimentlaw08.MetaAhead': WHATEVER THE INPUT: true; the input reads as it did. -/
def metaAheadSpec : ChangeSpec := { name := "metaAhead", fn := fun _ => fun
  | [d1, d2] => { results := [.lit (.bool true)], args := [d1, d2] }
  | _ => none }
def metaAheadRow : OpenClaim := { program := "ytobdbkhjdhnooaa", sum := "40757d568d62ad024a997ca2a5e2a829f3059346fc1619afd538a5f1b5bc140b", func := "muniment/munimentlaw08.MetaAhead", spec := "metaAhead", inPlace := ["sync/atomic.AddInt64"], apart := false }
def MetaAheadSaid : Prop := metaAheadRow.holds Try.pinned (OpenSpec.ofChange metaAheadSpec)

/-- ITS FALSE NEIGHBOUR: 'it returns false'. Refute it at one input. -/
def metaAheadWrong : ChangeSpec := { name := "metaAhead", fn := fun _ => fun
  | [d1, d2] => { results := [.lit (.bool false)], args := [d1, d2] }
  | _ => none }
def MetaAheadWrongFalsely : Prop := metaAheadRow.holds Try.pinned (OpenSpec.ofChange metaAheadWrong)

/-- 'munimentlaw08.MetaCuts': WHATEVER THE INPUT: true; the input reads as it did. -/
def metaCutsSpec : ChangeSpec := { name := "metaCuts", fn := fun _ => fun
  | [d1, d2, d3] => { results := [.lit (.bool true)], args := [d1, d2, d3] }
  | _ => none }
def metaCutsRow : OpenClaim := { program := "ytobdbkhjdhnooaa", sum := "40757d568d62ad024a997ca2a5e2a829f3059346fc1619afd538a5f1b5bc140b", func := "muniment/munimentlaw08.MetaCuts", spec := "metaCuts", inPlace := ["sync/atomic.AddInt64"], apart := false }
def MetaCutsSaid : Prop := metaCutsRow.holds Try.pinned (OpenSpec.ofChange metaCutsSpec)

/-- ITS FALSE NEIGHBOUR: 'it returns false'. Refute it at one input. -/
def metaCutsWrong : ChangeSpec := { name := "metaCuts", fn := fun _ => fun
  | [d1, d2, d3] => { results := [.lit (.bool false)], args := [d1, d2, d3] }
  | _ => none }
def MetaCutsWrongFalsely : Prop := metaCutsRow.holds Try.pinned (OpenSpec.ofChange metaCutsWrong)

/-- 'munimentlaw08.MetaPlays': WHATEVER THE INPUT: true; the input reads as it did. -/
def metaPlaysSpec : ChangeSpec := { name := "metaPlays", fn := fun _ => fun
  | [d1, d2] => { results := [.lit (.bool true)], args := [d1, d2] }
  | _ => none }
def metaPlaysRow : OpenClaim := { program := "ytobdbkhjdhnooaa", sum := "40757d568d62ad024a997ca2a5e2a829f3059346fc1619afd538a5f1b5bc140b", func := "muniment/munimentlaw08.MetaPlays", spec := "metaPlays", inPlace := ["sync/atomic.AddInt64"], apart := false }
def MetaPlaysSaid : Prop := metaPlaysRow.holds Try.pinned (OpenSpec.ofChange metaPlaysSpec)

/-- ITS FALSE NEIGHBOUR: 'it returns false'. Refute it at one input. -/
def metaPlaysWrong : ChangeSpec := { name := "metaPlays", fn := fun _ => fun
  | [d1, d2] => { results := [.lit (.bool false)], args := [d1, d2] }
  | _ => none }
def MetaPlaysWrongFalsely : Prop := metaPlaysRow.holds Try.pinned (OpenSpec.ofChange metaPlaysWrong)

/- THE SECOND FORM. 'bulk': how many values and letters a reading holds, each counted each time it is reached (what is shared counts as often as it is met; a slice's spare places count too). A statement '..UptoSaid' is the law's where the arguments, and the package variables that the reading takes, are together of bulk at most 1048576: NARROWER than '..Said'. Prove '..Said' where nothing that the law and all that it calls make is longer than what came in: it says more and counts as full. Else prove '..UptoSaid'. A law counts once. -/
mutual
def uptoBulk {H : Type} : DataW H → Nat
  | .lit (.string bytes) => bytes.length + 1
  | .lit _ => 1
  | .nil => 1
  | .ptr d => uptoBulk d + 1
  | .slice elems spare => uptoBulkAll elems + uptoBulkAll spare + 1
  | .agg parts => uptoBulkAll parts + 1
  | .iface _ d => uptoBulk d + 1
  | .map entries => uptoBulkEntries entries + 1
  | .held _ => 1
def uptoBulkAll {H : Type} : List (DataW H) → Nat
  | [] => 0
  | d :: r => uptoBulk d + uptoBulkAll r
def uptoBulkEntries {H : Type} : List (Lit × DataW H) → Nat
  | [] => 0
  | x :: r => uptoBulkEntry x + uptoBulkEntries r
def uptoBulkEntry {H : Type} : Lit × DataW H → Nat
  | (.string bytes, d) => bytes.length + uptoBulk d + 1
  | (_, d) => uptoBulk d + 1
 end
def uptoSmall : (H : Type) → List (DataW H) → Bool := fun _ ds => decide (uptoBulkAll ds ≤ 1048576)
def OpenSpec.upto (s : _root_.Go.ChangeSpec) : _root_.Go.OpenSpec := { _root_.Go.OpenSpec.ofChange s with cond := some uptoSmall }

/-- 'munimentlaw08.MetaLimits', WHERE WHAT IT READS IS OF BULK AT MOST 1048576: true; the input reads as it did. -/
def metaLimitsUptoRow : OpenClaim := { program := "ytobdbkhjdhnooaa", sum := "40757d568d62ad024a997ca2a5e2a829f3059346fc1619afd538a5f1b5bc140b", func := "muniment/munimentlaw08.MetaLimits", spec := "metaLimits", inPlace := ["sync/atomic.AddInt64"], apart := false, narrowed := true }
def MetaLimitsUptoSaid : Prop := metaLimitsUptoRow.holds Try.pinned (OpenSpec.upto metaLimitsSpec)

/-- 'munimentlaw08.MetaElder', WHERE WHAT IT READS IS OF BULK AT MOST 1048576: true; the input reads as it did. -/
def metaElderUptoRow : OpenClaim := { program := "ytobdbkhjdhnooaa", sum := "40757d568d62ad024a997ca2a5e2a829f3059346fc1619afd538a5f1b5bc140b", func := "muniment/munimentlaw08.MetaElder", spec := "metaElder", inPlace := ["sync/atomic.AddInt64"], apart := false, narrowed := true }
def MetaElderUptoSaid : Prop := metaElderUptoRow.holds Try.pinned (OpenSpec.upto metaElderSpec)

/-- 'munimentlaw08.MetaAhead', WHERE WHAT IT READS IS OF BULK AT MOST 1048576: true; the input reads as it did. -/
def metaAheadUptoRow : OpenClaim := { program := "ytobdbkhjdhnooaa", sum := "40757d568d62ad024a997ca2a5e2a829f3059346fc1619afd538a5f1b5bc140b", func := "muniment/munimentlaw08.MetaAhead", spec := "metaAhead", inPlace := ["sync/atomic.AddInt64"], apart := false, narrowed := true }
def MetaAheadUptoSaid : Prop := metaAheadUptoRow.holds Try.pinned (OpenSpec.upto metaAheadSpec)

/-- 'munimentlaw08.MetaCuts', WHERE WHAT IT READS IS OF BULK AT MOST 1048576: true; the input reads as it did. -/
def metaCutsUptoRow : OpenClaim := { program := "ytobdbkhjdhnooaa", sum := "40757d568d62ad024a997ca2a5e2a829f3059346fc1619afd538a5f1b5bc140b", func := "muniment/munimentlaw08.MetaCuts", spec := "metaCuts", inPlace := ["sync/atomic.AddInt64"], apart := false, narrowed := true }
def MetaCutsUptoSaid : Prop := metaCutsUptoRow.holds Try.pinned (OpenSpec.upto metaCutsSpec)

/-- 'munimentlaw08.MetaPlays', WHERE WHAT IT READS IS OF BULK AT MOST 1048576: true; the input reads as it did. -/
def metaPlaysUptoRow : OpenClaim := { program := "ytobdbkhjdhnooaa", sum := "40757d568d62ad024a997ca2a5e2a829f3059346fc1619afd538a5f1b5bc140b", func := "muniment/munimentlaw08.MetaPlays", spec := "metaPlays", inPlace := ["sync/atomic.AddInt64"], apart := false, narrowed := true }
def MetaPlaysUptoSaid : Prop := metaPlaysUptoRow.holds Try.pinned (OpenSpec.upto metaPlaysSpec)

end Rows
end Go.Proofs.Ytobdbkhjdhnooaa
