/-
  DERIVED. GIVEN WITH THE SEED: THE CARDS: each row of YtpnbmgfnnmmokaaDoorRows.lean that lists a variable, with what it lists TIED to the program's text (the seventh form; the later family's looks); each row that meets fmt, with fmt's text TOLD by the authors' own Lean function (tested against real Go, not proved from fmt's source: count such statements apart). THE CARD IS WHAT COUNTS. Prove the row's statement (the work); the ties are given (YtpnbmgfnnmmokaaDoorTie.lean); close each card by the builder's one call (the guide's Derived/Test/ToyasCard.lean, 'card_holds'). Laid BY PROGRAM, IN A SANDBOX (cutbox-door.mjs). By AI agents, Wed Nov 11 2026. No macro, syntax, notation, axiom, sorry.
-/
import Derived.Test.YtpnbmgfnnmmokaaDoorRows
import GoSem.ClaimSeven
namespace Go.Proofs.YtpnbmgfnnmmokaaDoor
namespace Rows

/-- THE TIED CARD OF 'munimentlaw04.KeysWrite'. -/
def keysWriteCard : Claim7 := { stood := { row := keysWriteRow, standIns := [], harness := (true, "1e44047ea7e3da9546d1288fb297cc3822ad455c44e68756bc393cdf24ba0669"), looks := false }, kinds := [], alts := [], laidByText := true, laidKinds := [.data, .pinned], laidTests := true, laidLooks := .later }
def KeysWriteCardSaid : Prop := Claim7.holds Tryd.pinned (.plain (OpenSpec.ofChange keysWriteSpec)) keysWriteCard

/-- THE TIED CARD OF 'munimentlaw04.KeysInts'. -/
def keysIntsCard : Claim7 := { stood := { row := keysIntsRow, standIns := [], harness := (true, "1e44047ea7e3da9546d1288fb297cc3822ad455c44e68756bc393cdf24ba0669"), looks := false }, kinds := [], alts := [], laidByText := true, laidKinds := [.data, .pinned], laidTests := true, laidLooks := .later }
def KeysIntsCardSaid : Prop := Claim7.holds Tryd.pinned (.plain (OpenSpec.ofChange keysIntsSpec)) keysIntsCard

/-- THE TIED CARD OF 'munimentlaw04.KeysOrder'. -/
def keysOrderCard : Claim7 := { stood := { row := keysOrderRow, standIns := [], harness := (true, "1e44047ea7e3da9546d1288fb297cc3822ad455c44e68756bc393cdf24ba0669"), looks := false }, kinds := [], alts := [], laidByText := true, laidKinds := [.data, .pinned], laidTests := true, laidLooks := .later }
def KeysOrderCardSaid : Prop := Claim7.holds Tryd.pinned (.plain (OpenSpec.ofChange keysOrderSpec)) keysOrderCard

/-- THE TIED CARD OF 'munimentlaw04.KeysRead'. -/
def keysReadCard : Claim7 := { stood := { row := keysReadRow, standIns := [], harness := (true, "1e44047ea7e3da9546d1288fb297cc3822ad455c44e68756bc393cdf24ba0669"), looks := false }, kinds := [], alts := [], laidByText := true, laidKinds := [.data, .pinned], laidTests := true, laidLooks := .later }
def KeysReadCardSaid : Prop := Claim7.holds Tryd.pinned (.plain (OpenSpec.ofChange keysReadSpec)) keysReadCard

/-- THE TIED CARD OF 'munimentlaw04.KeysBack'. -/
def keysBackCard : Claim7 := { stood := { row := keysBackRow, standIns := [], harness := (true, "1e44047ea7e3da9546d1288fb297cc3822ad455c44e68756bc393cdf24ba0669"), looks := false }, kinds := [], alts := [], laidByText := true, laidKinds := [.data, .pinned], laidTests := true, laidLooks := .later }
def KeysBackCardSaid : Prop := Claim7.holds Tryd.pinned (.plain (OpenSpec.ofChange keysBackSpec)) keysBackCard

/-- THE TIED CARD OF 'munimentlaw04.KeysLists'. -/
def keysListsCard : Claim7 := { stood := { row := keysListsRow, standIns := [], harness := (true, "1e44047ea7e3da9546d1288fb297cc3822ad455c44e68756bc393cdf24ba0669"), looks := false }, kinds := [], alts := [], laidByText := true, laidKinds := [.data, .pinned], laidTests := true, laidLooks := .later }
def KeysListsCardSaid : Prop := Claim7.holds Tryd.pinned (.plain (OpenSpec.ofChange keysListsSpec)) keysListsCard

/-- THE SECOND FORM's CARD OF 'munimentlaw04.KeysWrite'. -/
def keysWriteUptoCard : Claim7 := { stood := { row := keysWriteUptoRow, standIns := [], harness := (true, "1e44047ea7e3da9546d1288fb297cc3822ad455c44e68756bc393cdf24ba0669"), looks := false }, kinds := [], alts := [], laidByText := true, laidKinds := [.data, .pinned], laidTests := true, laidLooks := .later }
def KeysWriteUptoCardSaid : Prop := Claim7.holds Tryd.pinned (.plain (OpenSpec.upto keysWriteSpec)) keysWriteUptoCard

/-- THE SECOND FORM's CARD OF 'munimentlaw04.KeysInts'. -/
def keysIntsUptoCard : Claim7 := { stood := { row := keysIntsUptoRow, standIns := [], harness := (true, "1e44047ea7e3da9546d1288fb297cc3822ad455c44e68756bc393cdf24ba0669"), looks := false }, kinds := [], alts := [], laidByText := true, laidKinds := [.data, .pinned], laidTests := true, laidLooks := .later }
def KeysIntsUptoCardSaid : Prop := Claim7.holds Tryd.pinned (.plain (OpenSpec.upto keysIntsSpec)) keysIntsUptoCard

/-- THE SECOND FORM's CARD OF 'munimentlaw04.KeysOrder'. -/
def keysOrderUptoCard : Claim7 := { stood := { row := keysOrderUptoRow, standIns := [], harness := (true, "1e44047ea7e3da9546d1288fb297cc3822ad455c44e68756bc393cdf24ba0669"), looks := false }, kinds := [], alts := [], laidByText := true, laidKinds := [.data, .pinned], laidTests := true, laidLooks := .later }
def KeysOrderUptoCardSaid : Prop := Claim7.holds Tryd.pinned (.plain (OpenSpec.upto keysOrderSpec)) keysOrderUptoCard

/-- THE SECOND FORM's CARD OF 'munimentlaw04.KeysRead'. -/
def keysReadUptoCard : Claim7 := { stood := { row := keysReadUptoRow, standIns := [], harness := (true, "1e44047ea7e3da9546d1288fb297cc3822ad455c44e68756bc393cdf24ba0669"), looks := false }, kinds := [], alts := [], laidByText := true, laidKinds := [.data, .pinned], laidTests := true, laidLooks := .later }
def KeysReadUptoCardSaid : Prop := Claim7.holds Tryd.pinned (.plain (OpenSpec.upto keysReadSpec)) keysReadUptoCard

/-- THE SECOND FORM's CARD OF 'munimentlaw04.KeysBack'. -/
def keysBackUptoCard : Claim7 := { stood := { row := keysBackUptoRow, standIns := [], harness := (true, "1e44047ea7e3da9546d1288fb297cc3822ad455c44e68756bc393cdf24ba0669"), looks := false }, kinds := [], alts := [], laidByText := true, laidKinds := [.data, .pinned], laidTests := true, laidLooks := .later }
def KeysBackUptoCardSaid : Prop := Claim7.holds Tryd.pinned (.plain (OpenSpec.upto keysBackSpec)) keysBackUptoCard

/-- THE SECOND FORM's CARD OF 'munimentlaw04.KeysLists'. -/
def keysListsUptoCard : Claim7 := { stood := { row := keysListsUptoRow, standIns := [], harness := (true, "1e44047ea7e3da9546d1288fb297cc3822ad455c44e68756bc393cdf24ba0669"), looks := false }, kinds := [], alts := [], laidByText := true, laidKinds := [.data, .pinned], laidTests := true, laidLooks := .later }
def KeysListsUptoCardSaid : Prop := Claim7.holds Tryd.pinned (.plain (OpenSpec.upto keysListsSpec)) keysListsUptoCard
end Rows
end Go.Proofs.YtpnbmgfnnmmokaaDoor
