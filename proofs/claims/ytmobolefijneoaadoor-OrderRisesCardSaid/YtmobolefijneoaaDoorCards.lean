/-
  DERIVED. GIVEN WITH THE SEED: THE CARDS: each row of YtmobolefijneoaaDoorRows.lean that lists a variable, with what it lists TIED to the program's text (the seventh form; the later family's looks); each row that meets fmt, with fmt's text TOLD by the authors' own Lean function (tested against real Go, not proved from fmt's source: count such statements apart). THE CARD IS WHAT COUNTS. Prove the row's statement (the work); the ties are given (YtmobolefijneoaaDoorTie.lean); close each card by the builder's one call (the guide's Derived/Test/ToyasCard.lean, 'card_holds'). Laid BY PROGRAM, IN A SANDBOX (cutbox-door.mjs). By AI agents, Wed Nov 11 2026. No macro, syntax, notation, axiom, sorry.
-/
import Derived.Test.YtmobolefijneoaaDoorRows
import GoSem.ClaimSeven
namespace Go.Proofs.YtmobolefijneoaaDoor
namespace Rows

/-- THE TIED CARD OF 'munimentlaw03.OrderCompares'. -/
def orderComparesCard : Claim7 := { stood := { row := orderComparesRow, standIns := [], harness := (true, "17548781e5ad5b766436133816573224750c92bcda5d72fb8ef49162b0c68930"), looks := false }, kinds := [], alts := [], laidByText := true, laidKinds := [.data, .pinned], laidTests := true, laidLooks := .later }
def OrderComparesCardSaid : Prop := Claim7.holds Tryd.pinned (.plain (OpenSpec.ofChange orderComparesSpec)) orderComparesCard

/-- THE TIED CARD OF 'munimentlaw03.OrderTotal'. -/
def orderTotalCard : Claim7 := { stood := { row := orderTotalRow, standIns := [], harness := (true, "17548781e5ad5b766436133816573224750c92bcda5d72fb8ef49162b0c68930"), looks := false }, kinds := [], alts := [], laidByText := true, laidKinds := [.data, .pinned], laidTests := true, laidLooks := .later }
def OrderTotalCardSaid : Prop := Claim7.holds Tryd.pinned (.plain (OpenSpec.ofChange orderTotalSpec)) orderTotalCard

/-- THE TIED CARD OF 'munimentlaw03.OrderNumbers'. -/
def orderNumbersCard : Claim7 := { stood := { row := orderNumbersRow, standIns := [], harness := (true, "17548781e5ad5b766436133816573224750c92bcda5d72fb8ef49162b0c68930"), looks := false }, kinds := [], alts := [], laidByText := true, laidKinds := [.data, .pinned], laidTests := true, laidLooks := .later }
def OrderNumbersCardSaid : Prop := Claim7.holds Tryd.pinned (.plain (OpenSpec.ofChange orderNumbersSpec)) orderNumbersCard

/-- THE TIED CARD OF 'munimentlaw03.OrderLists'. -/
def orderListsCard : Claim7 := { stood := { row := orderListsRow, standIns := [], harness := (true, "17548781e5ad5b766436133816573224750c92bcda5d72fb8ef49162b0c68930"), looks := false }, kinds := [], alts := [], laidByText := true, laidKinds := [.data, .pinned], laidTests := true, laidLooks := .later }
def OrderListsCardSaid : Prop := Claim7.holds Tryd.pinned (.plain (OpenSpec.ofChange orderListsSpec)) orderListsCard

/-- THE TIED CARD OF 'munimentlaw03.OrderSorts'. -/
def orderSortsCard : Claim7 := { stood := { row := orderSortsRow, standIns := [], harness := (true, "17548781e5ad5b766436133816573224750c92bcda5d72fb8ef49162b0c68930"), looks := false }, kinds := [], alts := [], laidByText := true, laidKinds := [.data, .pinned], laidTests := true, laidLooks := .later }
def OrderSortsCardSaid : Prop := Claim7.holds Tryd.pinned (.plain (OpenSpec.ofChange orderSortsSpec)) orderSortsCard

/-- THE TIED CARD OF 'munimentlaw03.OrderRises'. -/
def orderRisesCard : Claim7 := { stood := { row := orderRisesRow, standIns := [], harness := (true, "17548781e5ad5b766436133816573224750c92bcda5d72fb8ef49162b0c68930"), looks := false }, kinds := [], alts := [], laidByText := true, laidKinds := [.data, .pinned], laidTests := true, laidLooks := .later }
def OrderRisesCardSaid : Prop := Claim7.holds Tryd.pinned (.plain (OpenSpec.ofChange orderRisesSpec)) orderRisesCard

/-- THE SECOND FORM's CARD OF 'munimentlaw03.OrderCompares'. -/
def orderComparesUptoCard : Claim7 := { stood := { row := orderComparesUptoRow, standIns := [], harness := (true, "17548781e5ad5b766436133816573224750c92bcda5d72fb8ef49162b0c68930"), looks := false }, kinds := [], alts := [], laidByText := true, laidKinds := [.data, .pinned], laidTests := true, laidLooks := .later }
def OrderComparesUptoCardSaid : Prop := Claim7.holds Tryd.pinned (.plain (OpenSpec.upto orderComparesSpec)) orderComparesUptoCard

/-- THE SECOND FORM's CARD OF 'munimentlaw03.OrderTotal'. -/
def orderTotalUptoCard : Claim7 := { stood := { row := orderTotalUptoRow, standIns := [], harness := (true, "17548781e5ad5b766436133816573224750c92bcda5d72fb8ef49162b0c68930"), looks := false }, kinds := [], alts := [], laidByText := true, laidKinds := [.data, .pinned], laidTests := true, laidLooks := .later }
def OrderTotalUptoCardSaid : Prop := Claim7.holds Tryd.pinned (.plain (OpenSpec.upto orderTotalSpec)) orderTotalUptoCard

/-- THE SECOND FORM's CARD OF 'munimentlaw03.OrderNumbers'. -/
def orderNumbersUptoCard : Claim7 := { stood := { row := orderNumbersUptoRow, standIns := [], harness := (true, "17548781e5ad5b766436133816573224750c92bcda5d72fb8ef49162b0c68930"), looks := false }, kinds := [], alts := [], laidByText := true, laidKinds := [.data, .pinned], laidTests := true, laidLooks := .later }
def OrderNumbersUptoCardSaid : Prop := Claim7.holds Tryd.pinned (.plain (OpenSpec.upto orderNumbersSpec)) orderNumbersUptoCard

/-- THE SECOND FORM's CARD OF 'munimentlaw03.OrderLists'. -/
def orderListsUptoCard : Claim7 := { stood := { row := orderListsUptoRow, standIns := [], harness := (true, "17548781e5ad5b766436133816573224750c92bcda5d72fb8ef49162b0c68930"), looks := false }, kinds := [], alts := [], laidByText := true, laidKinds := [.data, .pinned], laidTests := true, laidLooks := .later }
def OrderListsUptoCardSaid : Prop := Claim7.holds Tryd.pinned (.plain (OpenSpec.upto orderListsSpec)) orderListsUptoCard

/-- THE SECOND FORM's CARD OF 'munimentlaw03.OrderSorts'. -/
def orderSortsUptoCard : Claim7 := { stood := { row := orderSortsUptoRow, standIns := [], harness := (true, "17548781e5ad5b766436133816573224750c92bcda5d72fb8ef49162b0c68930"), looks := false }, kinds := [], alts := [], laidByText := true, laidKinds := [.data, .pinned], laidTests := true, laidLooks := .later }
def OrderSortsUptoCardSaid : Prop := Claim7.holds Tryd.pinned (.plain (OpenSpec.upto orderSortsSpec)) orderSortsUptoCard

/-- THE SECOND FORM's CARD OF 'munimentlaw03.OrderRises'. -/
def orderRisesUptoCard : Claim7 := { stood := { row := orderRisesUptoRow, standIns := [], harness := (true, "17548781e5ad5b766436133816573224750c92bcda5d72fb8ef49162b0c68930"), looks := false }, kinds := [], alts := [], laidByText := true, laidKinds := [.data, .pinned], laidTests := true, laidLooks := .later }
def OrderRisesUptoCardSaid : Prop := Claim7.holds Tryd.pinned (.plain (OpenSpec.upto orderRisesSpec)) orderRisesUptoCard
end Rows
end Go.Proofs.YtmobolefijneoaaDoor
