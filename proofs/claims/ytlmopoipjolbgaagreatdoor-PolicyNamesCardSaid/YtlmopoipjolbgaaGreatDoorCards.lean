/-
  DERIVED. GIVEN WITH THE SEED: THE CARDS: each row of YtlmopoipjolbgaaGreatDoorRows.lean that lists a variable, with what it lists TIED to the program's text (the seventh form; the later family's looks); each row that meets fmt, with fmt's text TOLD by the authors' own Lean function (tested against real Go, not proved from fmt's source: count such statements apart). THE CARD IS WHAT COUNTS. Prove the row's statement (the work); the ties are given (YtlmopoipjolbgaaGreatDoorTie.lean); close each card by the builder's one call (the guide's Derived/Test/ToyasCard.lean, 'card_holds'). Laid BY PROGRAM, IN A SANDBOX (cutbox-door.mjs). By AI agents, Wed Nov 11 2026. No macro, syntax, notation, axiom, sorry.
-/
import Derived.Test.YtlmopoipjolbgaaGreatDoorRows
import GoSem.ClaimSeven
namespace Go.Proofs.YtlmopoipjolbgaaGreatDoor
namespace Rows

/-- THE TIED CARD OF 'ravelinlaw06.PolicyParses'. -/
def policyParsesCard : Claim7 := { stood := { row := policyParsesRow, standIns := [], harness := (true, "057320fada36267d9a6f0894cbd4e4488c7f98a1b4a6a2ad784bd08597602be7"), looks := true }, kinds := [], alts := [], laidByText := true, laidKinds := [.data, .data, .data, .data, .sentinel, .sentinel, .pinned], laidTests := true, laidLooks := .later }
def PolicyParsesCardSaid : Prop := Claim7.holds Tryz.pinned (.plain (OpenSpec.ofChange policyParsesSpec)) policyParsesCard

/-- THE TIED CARD OF 'ravelinlaw06.PolicyPrints'. -/
def policyPrintsCard : Claim7 := { stood := { row := policyPrintsRow, standIns := [], harness := (true, "057320fada36267d9a6f0894cbd4e4488c7f98a1b4a6a2ad784bd08597602be7"), looks := true }, kinds := [], alts := [], laidByText := true, laidKinds := [.data, .data, .data, .data, .sentinel, .sentinel, .pinned], laidTests := true, laidLooks := .later }
def PolicyPrintsCardSaid : Prop := Claim7.holds Tryz.pinned (.plain (OpenSpec.ofChange policyPrintsSpec)) policyPrintsCard

/-- THE TIED CARD OF 'ravelinlaw06.PolicyBack'. -/
def policyBackCard : Claim7 := { stood := { row := policyBackRow, standIns := [], harness := (true, "057320fada36267d9a6f0894cbd4e4488c7f98a1b4a6a2ad784bd08597602be7"), looks := true }, kinds := [], alts := [], laidByText := true, laidKinds := [.data, .data, .data, .data, .sentinel, .sentinel, .pinned], laidTests := true, laidLooks := .later }
def PolicyBackCardSaid : Prop := Claim7.holds Tryz.pinned (.plain (OpenSpec.ofChange policyBackSpec)) policyBackCard

/-- THE TIED CARD OF 'ravelinlaw06.PolicyNames'. -/
def policyNamesCard : Claim7 := { stood := { row := policyNamesRow, standIns := [], harness := (true, "057320fada36267d9a6f0894cbd4e4488c7f98a1b4a6a2ad784bd08597602be7"), looks := true }, kinds := [], alts := [], laidByText := true, laidKinds := [.data, .data, .data, .data, .sentinel, .sentinel, .pinned], laidTests := true, laidLooks := .later }
def PolicyNamesCardSaid : Prop := Claim7.holds Tryz.pinned (.plain (OpenSpec.ofChange policyNamesSpec)) policyNamesCard

/-- THE SECOND FORM's CARD OF 'ravelinlaw06.PolicyParses'. -/
def policyParsesUptoCard : Claim7 := { stood := { row := policyParsesUptoRow, standIns := [], harness := (true, "057320fada36267d9a6f0894cbd4e4488c7f98a1b4a6a2ad784bd08597602be7"), looks := true }, kinds := [], alts := [], laidByText := true, laidKinds := [.data, .data, .data, .data, .sentinel, .sentinel, .pinned], laidTests := true, laidLooks := .later }
def PolicyParsesUptoCardSaid : Prop := Claim7.holds Tryz.pinned (.plain (OpenSpec.upto policyParsesSpec)) policyParsesUptoCard

/-- THE SECOND FORM's CARD OF 'ravelinlaw06.PolicyPrints'. -/
def policyPrintsUptoCard : Claim7 := { stood := { row := policyPrintsUptoRow, standIns := [], harness := (true, "057320fada36267d9a6f0894cbd4e4488c7f98a1b4a6a2ad784bd08597602be7"), looks := true }, kinds := [], alts := [], laidByText := true, laidKinds := [.data, .data, .data, .data, .sentinel, .sentinel, .pinned], laidTests := true, laidLooks := .later }
def PolicyPrintsUptoCardSaid : Prop := Claim7.holds Tryz.pinned (.plain (OpenSpec.upto policyPrintsSpec)) policyPrintsUptoCard

/-- THE SECOND FORM's CARD OF 'ravelinlaw06.PolicyBack'. -/
def policyBackUptoCard : Claim7 := { stood := { row := policyBackUptoRow, standIns := [], harness := (true, "057320fada36267d9a6f0894cbd4e4488c7f98a1b4a6a2ad784bd08597602be7"), looks := true }, kinds := [], alts := [], laidByText := true, laidKinds := [.data, .data, .data, .data, .sentinel, .sentinel, .pinned], laidTests := true, laidLooks := .later }
def PolicyBackUptoCardSaid : Prop := Claim7.holds Tryz.pinned (.plain (OpenSpec.upto policyBackSpec)) policyBackUptoCard

/-- THE SECOND FORM's CARD OF 'ravelinlaw06.PolicyNames'. -/
def policyNamesUptoCard : Claim7 := { stood := { row := policyNamesUptoRow, standIns := [], harness := (true, "057320fada36267d9a6f0894cbd4e4488c7f98a1b4a6a2ad784bd08597602be7"), looks := true }, kinds := [], alts := [], laidByText := true, laidKinds := [.data, .data, .data, .data, .sentinel, .sentinel, .pinned], laidTests := true, laidLooks := .later }
def PolicyNamesUptoCardSaid : Prop := Claim7.holds Tryz.pinned (.plain (OpenSpec.upto policyNamesSpec)) policyNamesUptoCard
end Rows
end Go.Proofs.YtlmopoipjolbgaaGreatDoor
