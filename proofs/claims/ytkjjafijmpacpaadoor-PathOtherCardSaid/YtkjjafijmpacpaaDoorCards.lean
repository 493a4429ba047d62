/-
  DERIVED. GIVEN WITH THE SEED: THE CARDS: each row of YtkjjafijmpacpaaDoorRows.lean that lists a variable, with what it lists TIED to the program's text (the seventh form; the later family's looks); each row that meets fmt, with fmt's text TOLD by the authors' own Lean function (tested against real Go, not proved from fmt's source: count such statements apart). THE CARD IS WHAT COUNTS. Prove the row's statement (the work); the ties are given (YtkjjafijmpacpaaDoorTie.lean); close each card by the builder's one call (the guide's Derived/Test/ToyasCard.lean, 'card_holds'). Laid BY PROGRAM, IN A SANDBOX (cutbox-door.mjs). By AI agents, Wed Nov 11 2026. No macro, syntax, notation, axiom, sorry.
-/
import Derived.Test.YtkjjafijmpacpaaDoorRows
import GoSem.ClaimSeven
namespace Go.Proofs.YtkjjafijmpacpaaDoor
namespace Rows

/-- THE TIED CARD OF 'munimentlaw02.PathSteps'. -/
def pathStepsCard : Claim7 := { stood := { row := pathStepsRow, standIns := [], harness := (true, "90db1ecc57ff902beeeebb7d5a695564283d2e7059f9af60d218afa3a5ecbf77"), looks := false }, kinds := [], alts := [], laidByText := true, laidKinds := [.data, .pinned], laidTests := true, laidLooks := .later }
def PathStepsCardSaid : Prop := Claim7.holds Tryd.pinned (.plain (OpenSpec.ofChange pathStepsSpec)) pathStepsCard

/-- THE TIED CARD OF 'munimentlaw02.PathGets'. -/
def pathGetsCard : Claim7 := { stood := { row := pathGetsRow, standIns := [], harness := (true, "90db1ecc57ff902beeeebb7d5a695564283d2e7059f9af60d218afa3a5ecbf77"), looks := false }, kinds := [], alts := [], laidByText := true, laidKinds := [.data, .pinned], laidTests := true, laidLooks := .later }
def PathGetsCardSaid : Prop := Claim7.holds Tryd.pinned (.plain (OpenSpec.ofChange pathGetsSpec)) pathGetsCard

/-- THE TIED CARD OF 'munimentlaw02.PathPuts'. -/
def pathPutsCard : Claim7 := { stood := { row := pathPutsRow, standIns := [], harness := (true, "90db1ecc57ff902beeeebb7d5a695564283d2e7059f9af60d218afa3a5ecbf77"), looks := false }, kinds := [], alts := [], laidByText := true, laidKinds := [.data, .pinned], laidTests := true, laidLooks := .later }
def PathPutsCardSaid : Prop := Claim7.holds Tryd.pinned (.plain (OpenSpec.ofChange pathPutsSpec)) pathPutsCard

/-- THE TIED CARD OF 'munimentlaw02.PathBack'. -/
def pathBackCard : Claim7 := { stood := { row := pathBackRow, standIns := [], harness := (true, "90db1ecc57ff902beeeebb7d5a695564283d2e7059f9af60d218afa3a5ecbf77"), looks := false }, kinds := [], alts := [], laidByText := true, laidKinds := [.data, .pinned], laidTests := true, laidLooks := .later }
def PathBackCardSaid : Prop := Claim7.holds Tryd.pinned (.plain (OpenSpec.ofChange pathBackSpec)) pathBackCard

/-- THE TIED CARD OF 'munimentlaw02.PathOther'. -/
def pathOtherCard : Claim7 := { stood := { row := pathOtherRow, standIns := [], harness := (true, "90db1ecc57ff902beeeebb7d5a695564283d2e7059f9af60d218afa3a5ecbf77"), looks := false }, kinds := [], alts := [], laidByText := true, laidKinds := [.data, .pinned], laidTests := true, laidLooks := .later }
def PathOtherCardSaid : Prop := Claim7.holds Tryd.pinned (.plain (OpenSpec.ofChange pathOtherSpec)) pathOtherCard

/-- THE SECOND FORM's CARD OF 'munimentlaw02.PathSteps'. -/
def pathStepsUptoCard : Claim7 := { stood := { row := pathStepsUptoRow, standIns := [], harness := (true, "90db1ecc57ff902beeeebb7d5a695564283d2e7059f9af60d218afa3a5ecbf77"), looks := false }, kinds := [], alts := [], laidByText := true, laidKinds := [.data, .pinned], laidTests := true, laidLooks := .later }
def PathStepsUptoCardSaid : Prop := Claim7.holds Tryd.pinned (.plain (OpenSpec.upto pathStepsSpec)) pathStepsUptoCard

/-- THE SECOND FORM's CARD OF 'munimentlaw02.PathGets'. -/
def pathGetsUptoCard : Claim7 := { stood := { row := pathGetsUptoRow, standIns := [], harness := (true, "90db1ecc57ff902beeeebb7d5a695564283d2e7059f9af60d218afa3a5ecbf77"), looks := false }, kinds := [], alts := [], laidByText := true, laidKinds := [.data, .pinned], laidTests := true, laidLooks := .later }
def PathGetsUptoCardSaid : Prop := Claim7.holds Tryd.pinned (.plain (OpenSpec.upto pathGetsSpec)) pathGetsUptoCard

/-- THE SECOND FORM's CARD OF 'munimentlaw02.PathPuts'. -/
def pathPutsUptoCard : Claim7 := { stood := { row := pathPutsUptoRow, standIns := [], harness := (true, "90db1ecc57ff902beeeebb7d5a695564283d2e7059f9af60d218afa3a5ecbf77"), looks := false }, kinds := [], alts := [], laidByText := true, laidKinds := [.data, .pinned], laidTests := true, laidLooks := .later }
def PathPutsUptoCardSaid : Prop := Claim7.holds Tryd.pinned (.plain (OpenSpec.upto pathPutsSpec)) pathPutsUptoCard

/-- THE SECOND FORM's CARD OF 'munimentlaw02.PathBack'. -/
def pathBackUptoCard : Claim7 := { stood := { row := pathBackUptoRow, standIns := [], harness := (true, "90db1ecc57ff902beeeebb7d5a695564283d2e7059f9af60d218afa3a5ecbf77"), looks := false }, kinds := [], alts := [], laidByText := true, laidKinds := [.data, .pinned], laidTests := true, laidLooks := .later }
def PathBackUptoCardSaid : Prop := Claim7.holds Tryd.pinned (.plain (OpenSpec.upto pathBackSpec)) pathBackUptoCard

/-- THE SECOND FORM's CARD OF 'munimentlaw02.PathOther'. -/
def pathOtherUptoCard : Claim7 := { stood := { row := pathOtherUptoRow, standIns := [], harness := (true, "90db1ecc57ff902beeeebb7d5a695564283d2e7059f9af60d218afa3a5ecbf77"), looks := false }, kinds := [], alts := [], laidByText := true, laidKinds := [.data, .pinned], laidTests := true, laidLooks := .later }
def PathOtherUptoCardSaid : Prop := Claim7.holds Tryd.pinned (.plain (OpenSpec.upto pathOtherSpec)) pathOtherUptoCard
end Rows
end Go.Proofs.YtkjjafijmpacpaaDoor
