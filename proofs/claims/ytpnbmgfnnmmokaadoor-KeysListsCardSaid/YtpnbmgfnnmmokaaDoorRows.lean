/-
  NARROWER THAN 'FOR EVERY INPUT', by the rows' own cells (each row's printed sentence says how): KeysWrite: loops, laid · KeysInts: laid · KeysOrder: loops, laid · KeysRead: laid · KeysBack: loops, laid · KeysLists: loops, laid.
  DERIVED. THE GIVEN ROWS OF THIS SEAT. 6 by the template 'for every input the law returns true; each argument reads behind the call as it read before'; 0 by the template 'total and deterministic' (their statements: YtpnbmgfnnmmokaaDoorTotals.lean).
  GIVEN WITH THE SEED: the statements are not yours to turn. If you find one false, say at which input.
  Laid BY PROGRAM, IN A SANDBOX (cutbox-rows.mjs): the forced cells as the released guide's own fill.sh prints them over the translation 1f616a08472414e2… (all of the seat's roots in one cut). By AI agents, Wed Nov 11 2026. No macro, syntax, notation, axiom, sorry.
-/
import Derived.Test.YtpnbmgfnnmmokaaDoorChecked
import GoSem.PinnedTables
import GoSem.Claim
import GoSem.ClaimJoined
import GoSem.ClaimMapViews
import Derived.JoinedTies
import Derived.KernelRfl
namespace Go.Proofs.YtpnbmgfnnmmokaaDoor
/- THE CELL 'sum', in the pinned program and in every row, IS THE sha256 OF THE DUMP (.gsa) THAT YtpnbmgfnnmmokaaDoorProg.lean LOADS. Nothing in Lean hashes anything: it is a label: what it is worth is what the hold of that sum in a sandbox is worth. -/
noncomputable def Tryd.pinned : Pinned := { name := "ytpnbmgfnnmmokaadoor", sum := "1f616a08472414e2d8faa2f321f3a9434d13372e93fd8970b10192702ceb6fad", checked := Tryd.checked }
namespace Rows
def none {H : Type} : Left H := { results := [], args := [] }

/- WHAT THE LISTED PACKAGE-LEVEL VARIABLES READ AS WHEN THE CALL BEGINS. Each datum BY PROGRAM (the guide's laid-datum.mjs) off the statement by which the dump's own 'gosem.cut.vars' lays the variable. In a bare row this is a premise. The card (YtpnbmgfnnmmokaaDoorCards.lean) ties it to the program's text. -/
def laid_unicode_utf8_acceptRanges {H : Type} : DataW H := .agg [.agg [.lit (.int .u8 128), .lit (.int .u8 191)], .agg [.lit (.int .u8 160), .lit (.int .u8 191)], .agg [.lit (.int .u8 128), .lit (.int .u8 159)], .agg [.lit (.int .u8 144), .lit (.int .u8 191)], .agg [.lit (.int .u8 128), .lit (.int .u8 143)], .agg [.lit (.int .u8 0), .lit (.int .u8 0)], .agg [.lit (.int .u8 0), .lit (.int .u8 0)], .agg [.lit (.int .u8 0), .lit (.int .u8 0)], .agg [.lit (.int .u8 0), .lit (.int .u8 0)], .agg [.lit (.int .u8 0), .lit (.int .u8 0)], .agg [.lit (.int .u8 0), .lit (.int .u8 0)], .agg [.lit (.int .u8 0), .lit (.int .u8 0)], .agg [.lit (.int .u8 0), .lit (.int .u8 0)], .agg [.lit (.int .u8 0), .lit (.int .u8 0)], .agg [.lit (.int .u8 0), .lit (.int .u8 0)], .agg [.lit (.int .u8 0), .lit (.int .u8 0)]]
/-- One of Go's own tables, pinned by name: the form's constant. -/
def laid_unicode_utf8_first : DataW Unit := Go.Pinned.utf8First

/-- 'munimentlaw04.KeysWrite': WHATEVER THE INPUT: true; the input reads as it did. -/
def keysWriteSpec : ChangeSpec := { name := "keysWrite", fn := fun _ => fun
  | [d] => { results := [.lit (.bool true)], args := [d] }
  | _ => none }
def keysWriteRow : OpenClaim := { program := "ytpnbmgfnnmmokaadoor", sum := "1f616a08472414e2d8faa2f321f3a9434d13372e93fd8970b10192702ceb6fad", func := "muniment/munimentlaw04.KeysWrite", spec := "keysWrite", unfollowed := true, recurses := true, named := ["unicode/utf8.first", "unicode/utf8.acceptRanges"], loops := true, apart := false, laid := [("unicode/utf8.acceptRanges", laid_unicode_utf8_acceptRanges), ("unicode/utf8.first", laid_unicode_utf8_first)] }
def KeysWriteSaid : Prop := keysWriteRow.holds Tryd.pinned (OpenSpec.ofChange keysWriteSpec)

/-- ITS FALSE NEIGHBOUR: 'it returns false'. Refute it at one input. -/
def keysWriteWrong : ChangeSpec := { name := "keysWrite", fn := fun _ => fun
  | [d] => { results := [.lit (.bool false)], args := [d] }
  | _ => none }
def KeysWriteWrongFalsely : Prop := keysWriteRow.holds Tryd.pinned (OpenSpec.ofChange keysWriteWrong)

/-- 'munimentlaw04.KeysInts': WHATEVER THE INPUT: true; the input reads as it did. -/
def keysIntsSpec : ChangeSpec := { name := "keysInts", fn := fun _ => fun
  | [d1, d2] => { results := [.lit (.bool true)], args := [d1, d2] }
  | _ => none }
def keysIntsRow : OpenClaim := { program := "ytpnbmgfnnmmokaadoor", sum := "1f616a08472414e2d8faa2f321f3a9434d13372e93fd8970b10192702ceb6fad", func := "muniment/munimentlaw04.KeysInts", spec := "keysInts", unfollowed := true, recurses := true, named := ["unicode/utf8.first", "unicode/utf8.acceptRanges"], apart := false, laid := [("unicode/utf8.acceptRanges", laid_unicode_utf8_acceptRanges), ("unicode/utf8.first", laid_unicode_utf8_first)] }
def KeysIntsSaid : Prop := keysIntsRow.holds Tryd.pinned (OpenSpec.ofChange keysIntsSpec)

/-- ITS FALSE NEIGHBOUR: 'it returns false'. Refute it at one input. -/
def keysIntsWrong : ChangeSpec := { name := "keysInts", fn := fun _ => fun
  | [d1, d2] => { results := [.lit (.bool false)], args := [d1, d2] }
  | _ => none }
def KeysIntsWrongFalsely : Prop := keysIntsRow.holds Tryd.pinned (OpenSpec.ofChange keysIntsWrong)

/-- 'munimentlaw04.KeysOrder': WHATEVER THE INPUT: true; the input reads as it did. -/
def keysOrderSpec : ChangeSpec := { name := "keysOrder", fn := fun _ => fun
  | [d1, d2] => { results := [.lit (.bool true)], args := [d1, d2] }
  | _ => none }
def keysOrderRow : OpenClaim := { program := "ytpnbmgfnnmmokaadoor", sum := "1f616a08472414e2d8faa2f321f3a9434d13372e93fd8970b10192702ceb6fad", func := "muniment/munimentlaw04.KeysOrder", spec := "keysOrder", unfollowed := true, recurses := true, named := ["unicode/utf8.first", "unicode/utf8.acceptRanges"], loops := true, apart := false, laid := [("unicode/utf8.acceptRanges", laid_unicode_utf8_acceptRanges), ("unicode/utf8.first", laid_unicode_utf8_first)] }
def KeysOrderSaid : Prop := keysOrderRow.holds Tryd.pinned (OpenSpec.ofChange keysOrderSpec)

/-- ITS FALSE NEIGHBOUR: 'it returns false'. Refute it at one input. -/
def keysOrderWrong : ChangeSpec := { name := "keysOrder", fn := fun _ => fun
  | [d1, d2] => { results := [.lit (.bool false)], args := [d1, d2] }
  | _ => none }
def KeysOrderWrongFalsely : Prop := keysOrderRow.holds Tryd.pinned (OpenSpec.ofChange keysOrderWrong)

/-- 'munimentlaw04.KeysRead': WHATEVER THE INPUT: true; the input reads as it did. -/
def keysReadSpec : ChangeSpec := { name := "keysRead", fn := fun _ => fun
  | [d] => { results := [.lit (.bool true)], args := [d] }
  | _ => none }
def keysReadRow : OpenClaim := { program := "ytpnbmgfnnmmokaadoor", sum := "1f616a08472414e2d8faa2f321f3a9434d13372e93fd8970b10192702ceb6fad", func := "muniment/munimentlaw04.KeysRead", spec := "keysRead", unfollowed := true, recurses := true, named := ["unicode/utf8.first", "unicode/utf8.acceptRanges"], apart := false, laid := [("unicode/utf8.acceptRanges", laid_unicode_utf8_acceptRanges), ("unicode/utf8.first", laid_unicode_utf8_first)] }
def KeysReadSaid : Prop := keysReadRow.holds Tryd.pinned (OpenSpec.ofChange keysReadSpec)

/-- ITS FALSE NEIGHBOUR: 'it returns false'. Refute it at one input. -/
def keysReadWrong : ChangeSpec := { name := "keysRead", fn := fun _ => fun
  | [d] => { results := [.lit (.bool false)], args := [d] }
  | _ => none }
def KeysReadWrongFalsely : Prop := keysReadRow.holds Tryd.pinned (OpenSpec.ofChange keysReadWrong)

/-- 'munimentlaw04.KeysBack': WHATEVER THE INPUT: true; the input reads as it did. -/
def keysBackSpec : ChangeSpec := { name := "keysBack", fn := fun _ => fun
  | [d1, d2] => { results := [.lit (.bool true)], args := [d1, d2] }
  | _ => none }
def keysBackRow : OpenClaim := { program := "ytpnbmgfnnmmokaadoor", sum := "1f616a08472414e2d8faa2f321f3a9434d13372e93fd8970b10192702ceb6fad", func := "muniment/munimentlaw04.KeysBack", spec := "keysBack", unfollowed := true, recurses := true, named := ["unicode/utf8.first", "unicode/utf8.acceptRanges"], loops := true, apart := false, laid := [("unicode/utf8.acceptRanges", laid_unicode_utf8_acceptRanges), ("unicode/utf8.first", laid_unicode_utf8_first)] }
def KeysBackSaid : Prop := keysBackRow.holds Tryd.pinned (OpenSpec.ofChange keysBackSpec)

/-- ITS FALSE NEIGHBOUR: 'it returns false'. Refute it at one input. -/
def keysBackWrong : ChangeSpec := { name := "keysBack", fn := fun _ => fun
  | [d1, d2] => { results := [.lit (.bool false)], args := [d1, d2] }
  | _ => none }
def KeysBackWrongFalsely : Prop := keysBackRow.holds Tryd.pinned (OpenSpec.ofChange keysBackWrong)

/-- 'munimentlaw04.KeysLists': WHATEVER THE INPUT: true; the input reads as it did. -/
def keysListsSpec : ChangeSpec := { name := "keysLists", fn := fun _ => fun
  | [d1, d2] => { results := [.lit (.bool true)], args := [d1, d2] }
  | _ => none }
def keysListsRow : OpenClaim := { program := "ytpnbmgfnnmmokaadoor", sum := "1f616a08472414e2d8faa2f321f3a9434d13372e93fd8970b10192702ceb6fad", func := "muniment/munimentlaw04.KeysLists", spec := "keysLists", unfollowed := true, recurses := true, named := ["unicode/utf8.first", "unicode/utf8.acceptRanges"], loops := true, apart := false, laid := [("unicode/utf8.acceptRanges", laid_unicode_utf8_acceptRanges), ("unicode/utf8.first", laid_unicode_utf8_first)] }
def KeysListsSaid : Prop := keysListsRow.holds Tryd.pinned (OpenSpec.ofChange keysListsSpec)

/-- ITS FALSE NEIGHBOUR: 'it returns false'. Refute it at one input. -/
def keysListsWrong : ChangeSpec := { name := "keysLists", fn := fun _ => fun
  | [d1, d2] => { results := [.lit (.bool false)], args := [d1, d2] }
  | _ => none }
def KeysListsWrongFalsely : Prop := keysListsRow.holds Tryd.pinned (OpenSpec.ofChange keysListsWrong)

/- THE SECOND FORM. 'bulk': how many values and letters a reading holds, each counted each time it is reached (what is shared counts as often as it is met; a slice's spare places count too). A statement '..UptoSaid' is the law's where the arguments, and the package variables that the reading takes, are together of bulk at most 1048576: NARROWER than '..Said'. Prove '..Said' where nothing that the law and all that it calls make is longer than what came in: it says more and counts as full. Else prove '..UptoSaid'. A law counts once. -/
mutual
def uptoBulk {H : Type} : DataW H → Nat
  | .lit (.string bytes) => bytes.length + 1
  | .lit _ => 1
  | .nil => 1
  | .ptr d => uptoBulk d + 1
  | .slice elems spare => uptoBulkAll elems + uptoBulkAll spare + 1
  | .agg parts => uptoBulkAll parts + 1
  | .iface _ d => uptoBulk d + 1
  | .map entries => uptoBulkEntries entries + 1
  | .held _ => 1
def uptoBulkAll {H : Type} : List (DataW H) → Nat
  | [] => 0
  | d :: r => uptoBulk d + uptoBulkAll r
def uptoBulkEntries {H : Type} : List (Lit × DataW H) → Nat
  | [] => 0
  | x :: r => uptoBulkEntry x + uptoBulkEntries r
def uptoBulkEntry {H : Type} : Lit × DataW H → Nat
  | (.string bytes, d) => bytes.length + uptoBulk d + 1
  | (_, d) => uptoBulk d + 1
 end
def uptoSmall : (H : Type) → List (DataW H) → Bool := fun _ ds => decide (uptoBulkAll ds ≤ 1048576)
def OpenSpec.upto (s : _root_.Go.ChangeSpec) : _root_.Go.OpenSpec := { _root_.Go.OpenSpec.ofChange s with cond := some uptoSmall }

/-- 'munimentlaw04.KeysWrite', WHERE WHAT IT READS IS OF BULK AT MOST 1048576: true; the input reads as it did. -/
def keysWriteUptoRow : OpenClaim := { program := "ytpnbmgfnnmmokaadoor", sum := "1f616a08472414e2d8faa2f321f3a9434d13372e93fd8970b10192702ceb6fad", func := "muniment/munimentlaw04.KeysWrite", spec := "keysWrite", unfollowed := true, recurses := true, named := ["unicode/utf8.first", "unicode/utf8.acceptRanges"], loops := true, apart := false, laid := [("unicode/utf8.acceptRanges", laid_unicode_utf8_acceptRanges), ("unicode/utf8.first", laid_unicode_utf8_first)], narrowed := true }
def KeysWriteUptoSaid : Prop := keysWriteUptoRow.holds Tryd.pinned (OpenSpec.upto keysWriteSpec)

/-- 'munimentlaw04.KeysInts', WHERE WHAT IT READS IS OF BULK AT MOST 1048576: true; the input reads as it did. -/
def keysIntsUptoRow : OpenClaim := { program := "ytpnbmgfnnmmokaadoor", sum := "1f616a08472414e2d8faa2f321f3a9434d13372e93fd8970b10192702ceb6fad", func := "muniment/munimentlaw04.KeysInts", spec := "keysInts", unfollowed := true, recurses := true, named := ["unicode/utf8.first", "unicode/utf8.acceptRanges"], apart := false, laid := [("unicode/utf8.acceptRanges", laid_unicode_utf8_acceptRanges), ("unicode/utf8.first", laid_unicode_utf8_first)], narrowed := true }
def KeysIntsUptoSaid : Prop := keysIntsUptoRow.holds Tryd.pinned (OpenSpec.upto keysIntsSpec)

/-- 'munimentlaw04.KeysOrder', WHERE WHAT IT READS IS OF BULK AT MOST 1048576: true; the input reads as it did. -/
def keysOrderUptoRow : OpenClaim := { program := "ytpnbmgfnnmmokaadoor", sum := "1f616a08472414e2d8faa2f321f3a9434d13372e93fd8970b10192702ceb6fad", func := "muniment/munimentlaw04.KeysOrder", spec := "keysOrder", unfollowed := true, recurses := true, named := ["unicode/utf8.first", "unicode/utf8.acceptRanges"], loops := true, apart := false, laid := [("unicode/utf8.acceptRanges", laid_unicode_utf8_acceptRanges), ("unicode/utf8.first", laid_unicode_utf8_first)], narrowed := true }
def KeysOrderUptoSaid : Prop := keysOrderUptoRow.holds Tryd.pinned (OpenSpec.upto keysOrderSpec)

/-- 'munimentlaw04.KeysRead', WHERE WHAT IT READS IS OF BULK AT MOST 1048576: true; the input reads as it did. -/
def keysReadUptoRow : OpenClaim := { program := "ytpnbmgfnnmmokaadoor", sum := "1f616a08472414e2d8faa2f321f3a9434d13372e93fd8970b10192702ceb6fad", func := "muniment/munimentlaw04.KeysRead", spec := "keysRead", unfollowed := true, recurses := true, named := ["unicode/utf8.first", "unicode/utf8.acceptRanges"], apart := false, laid := [("unicode/utf8.acceptRanges", laid_unicode_utf8_acceptRanges), ("unicode/utf8.first", laid_unicode_utf8_first)], narrowed := true }
def KeysReadUptoSaid : Prop := keysReadUptoRow.holds Tryd.pinned (OpenSpec.upto keysReadSpec)

/-- 'munimentlaw04.KeysBack', WHERE WHAT IT READS IS OF BULK AT MOST 1048576: true; the input reads as it did. -/
def keysBackUptoRow : OpenClaim := { program := "ytpnbmgfnnmmokaadoor", sum := "1f616a08472414e2d8faa2f321f3a9434d13372e93fd8970b10192702ceb6fad", func := "muniment/munimentlaw04.KeysBack", spec := "keysBack", unfollowed := true, recurses := true, named := ["unicode/utf8.first", "unicode/utf8.acceptRanges"], loops := true, apart := false, laid := [("unicode/utf8.acceptRanges", laid_unicode_utf8_acceptRanges), ("unicode/utf8.first", laid_unicode_utf8_first)], narrowed := true }
def KeysBackUptoSaid : Prop := keysBackUptoRow.holds Tryd.pinned (OpenSpec.upto keysBackSpec)

/-- 'munimentlaw04.KeysLists', WHERE WHAT IT READS IS OF BULK AT MOST 1048576: true; the input reads as it did. -/
def keysListsUptoRow : OpenClaim := { program := "ytpnbmgfnnmmokaadoor", sum := "1f616a08472414e2d8faa2f321f3a9434d13372e93fd8970b10192702ceb6fad", func := "muniment/munimentlaw04.KeysLists", spec := "keysLists", unfollowed := true, recurses := true, named := ["unicode/utf8.first", "unicode/utf8.acceptRanges"], loops := true, apart := false, laid := [("unicode/utf8.acceptRanges", laid_unicode_utf8_acceptRanges), ("unicode/utf8.first", laid_unicode_utf8_first)], narrowed := true }
def KeysListsUptoSaid : Prop := keysListsUptoRow.holds Tryd.pinned (OpenSpec.upto keysListsSpec)

end Rows
end Go.Proofs.YtpnbmgfnnmmokaaDoor
