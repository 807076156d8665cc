/-
  DERIVED. GIVEN WITH THE SEED: THE CARDS: each row of YtlmopoipjolbgaaDoorRows.lean that lists a variable, with what it lists TIED to the program's text (the seventh form; the later family's looks); each row that meets fmt, with fmt's text TOLD by the authors' own Lean function (tested against real Go, not proved from fmt's source: count such statements apart). THE CARD IS WHAT COUNTS. Prove the row's statement (the work); the ties are given (YtlmopoipjolbgaaDoorTie.lean); close each card by the builder's one call (the guide's Derived/Test/ToyasCard.lean, 'card_holds'). Laid BY PROGRAM, IN A SANDBOX (cutbox-door.mjs). By AI agents, Wed Nov 11 2026. No macro, syntax, notation, axiom, sorry.
-/
import Derived.Test.YtlmopoipjolbgaaDoorRows
import GoSem.ClaimSeven
namespace Go.Proofs.YtlmopoipjolbgaaDoor
namespace Rows

/-- THE TIED CARD OF 'ravelinlaw05.LexNumbers'. -/
def lexNumbersCard : Claim7 := { stood := { row := lexNumbersRow, standIns := [], harness := (true, "230d0826422f98fb8ac07bc1ce7d859f8ceb0a3083c7cfe39b3e194d8e3f3ce0"), looks := true }, kinds := [], alts := [], laidByText := true, laidKinds := [.data, .data, .data, .data, .sentinel, .sentinel, .pinned], laidTests := true, laidLooks := .later }
def LexNumbersCardSaid : Prop := Claim7.holds Tryd.pinned (.plain (OpenSpec.ofChange lexNumbersSpec)) lexNumbersCard

/-- THE TIED CARD OF 'ravelinlaw05.LexGoes'. -/
def lexGoesCard : Claim7 := { stood := { row := lexGoesRow, standIns := [], harness := (true, "230d0826422f98fb8ac07bc1ce7d859f8ceb0a3083c7cfe39b3e194d8e3f3ce0"), looks := true }, kinds := [], alts := [], laidByText := true, laidKinds := [.data, .data, .data, .data, .sentinel, .sentinel, .pinned], laidTests := true, laidLooks := .later }
def LexGoesCardSaid : Prop := Claim7.holds Tryd.pinned (.plain (OpenSpec.ofChange lexGoesSpec)) lexGoesCard

/-- THE TIED CARD OF 'ravelinlaw05.LexNames'. -/
def lexNamesCard : Claim7 := { stood := { row := lexNamesRow, standIns := [], harness := (true, "230d0826422f98fb8ac07bc1ce7d859f8ceb0a3083c7cfe39b3e194d8e3f3ce0"), looks := true }, kinds := [], alts := [], laidByText := true, laidKinds := [.data, .data, .data, .data, .sentinel, .sentinel, .pinned], laidTests := true, laidLooks := .later }
def LexNamesCardSaid : Prop := Claim7.holds Tryd.pinned (.plain (OpenSpec.ofChange lexNamesSpec)) lexNamesCard

/-- THE TIED CARD OF 'ravelinlaw05.LexLists'. -/
def lexListsCard : Claim7 := { stood := { row := lexListsRow, standIns := [], harness := (true, "230d0826422f98fb8ac07bc1ce7d859f8ceb0a3083c7cfe39b3e194d8e3f3ce0"), looks := true }, kinds := [], alts := [], laidByText := true, laidKinds := [.data, .data, .data, .data, .sentinel, .sentinel, .pinned], laidTests := true, laidLooks := .later }
def LexListsCardSaid : Prop := Claim7.holds Tryd.pinned (.plain (OpenSpec.ofChange lexListsSpec)) lexListsCard

/-- THE TIED CARD OF 'ravelinlaw05.LexStands'. -/
def lexStandsCard : Claim7 := { stood := { row := lexStandsRow, standIns := [], harness := (true, "230d0826422f98fb8ac07bc1ce7d859f8ceb0a3083c7cfe39b3e194d8e3f3ce0"), looks := true }, kinds := [], alts := [], laidByText := true, laidKinds := [.data, .data, .data, .data, .sentinel, .sentinel, .pinned], laidTests := true, laidLooks := .later }
def LexStandsCardSaid : Prop := Claim7.holds Tryd.pinned (.plain (OpenSpec.ofChange lexStandsSpec)) lexStandsCard

/-- THE TIED CARD OF 'ravelinlaw06.PolicySpaced'. -/
def policySpacedCard : Claim7 := { stood := { row := policySpacedRow, standIns := [], harness := (true, "230d0826422f98fb8ac07bc1ce7d859f8ceb0a3083c7cfe39b3e194d8e3f3ce0"), looks := true }, kinds := [], alts := [], laidByText := true, laidKinds := [.data, .data, .data, .data, .sentinel, .sentinel, .pinned], laidTests := true, laidLooks := .later }
def PolicySpacedCardSaid : Prop := Claim7.holds Tryd.pinned (.plain (OpenSpec.ofChange policySpacedSpec)) policySpacedCard

/-- THE SECOND FORM's CARD OF 'ravelinlaw05.LexNumbers'. -/
def lexNumbersUptoCard : Claim7 := { stood := { row := lexNumbersUptoRow, standIns := [], harness := (true, "230d0826422f98fb8ac07bc1ce7d859f8ceb0a3083c7cfe39b3e194d8e3f3ce0"), looks := true }, kinds := [], alts := [], laidByText := true, laidKinds := [.data, .data, .data, .data, .sentinel, .sentinel, .pinned], laidTests := true, laidLooks := .later }
def LexNumbersUptoCardSaid : Prop := Claim7.holds Tryd.pinned (.plain (OpenSpec.upto lexNumbersSpec)) lexNumbersUptoCard

/-- THE SECOND FORM's CARD OF 'ravelinlaw05.LexGoes'. -/
def lexGoesUptoCard : Claim7 := { stood := { row := lexGoesUptoRow, standIns := [], harness := (true, "230d0826422f98fb8ac07bc1ce7d859f8ceb0a3083c7cfe39b3e194d8e3f3ce0"), looks := true }, kinds := [], alts := [], laidByText := true, laidKinds := [.data, .data, .data, .data, .sentinel, .sentinel, .pinned], laidTests := true, laidLooks := .later }
def LexGoesUptoCardSaid : Prop := Claim7.holds Tryd.pinned (.plain (OpenSpec.upto lexGoesSpec)) lexGoesUptoCard

/-- THE SECOND FORM's CARD OF 'ravelinlaw05.LexNames'. -/
def lexNamesUptoCard : Claim7 := { stood := { row := lexNamesUptoRow, standIns := [], harness := (true, "230d0826422f98fb8ac07bc1ce7d859f8ceb0a3083c7cfe39b3e194d8e3f3ce0"), looks := true }, kinds := [], alts := [], laidByText := true, laidKinds := [.data, .data, .data, .data, .sentinel, .sentinel, .pinned], laidTests := true, laidLooks := .later }
def LexNamesUptoCardSaid : Prop := Claim7.holds Tryd.pinned (.plain (OpenSpec.upto lexNamesSpec)) lexNamesUptoCard

/-- THE SECOND FORM's CARD OF 'ravelinlaw05.LexLists'. -/
def lexListsUptoCard : Claim7 := { stood := { row := lexListsUptoRow, standIns := [], harness := (true, "230d0826422f98fb8ac07bc1ce7d859f8ceb0a3083c7cfe39b3e194d8e3f3ce0"), looks := true }, kinds := [], alts := [], laidByText := true, laidKinds := [.data, .data, .data, .data, .sentinel, .sentinel, .pinned], laidTests := true, laidLooks := .later }
def LexListsUptoCardSaid : Prop := Claim7.holds Tryd.pinned (.plain (OpenSpec.upto lexListsSpec)) lexListsUptoCard

/-- THE SECOND FORM's CARD OF 'ravelinlaw05.LexStands'. -/
def lexStandsUptoCard : Claim7 := { stood := { row := lexStandsUptoRow, standIns := [], harness := (true, "230d0826422f98fb8ac07bc1ce7d859f8ceb0a3083c7cfe39b3e194d8e3f3ce0"), looks := true }, kinds := [], alts := [], laidByText := true, laidKinds := [.data, .data, .data, .data, .sentinel, .sentinel, .pinned], laidTests := true, laidLooks := .later }
def LexStandsUptoCardSaid : Prop := Claim7.holds Tryd.pinned (.plain (OpenSpec.upto lexStandsSpec)) lexStandsUptoCard

/-- THE SECOND FORM's CARD OF 'ravelinlaw06.PolicySpaced'. -/
def policySpacedUptoCard : Claim7 := { stood := { row := policySpacedUptoRow, standIns := [], harness := (true, "230d0826422f98fb8ac07bc1ce7d859f8ceb0a3083c7cfe39b3e194d8e3f3ce0"), looks := true }, kinds := [], alts := [], laidByText := true, laidKinds := [.data, .data, .data, .data, .sentinel, .sentinel, .pinned], laidTests := true, laidLooks := .later }
def PolicySpacedUptoCardSaid : Prop := Claim7.holds Tryd.pinned (.plain (OpenSpec.upto policySpacedSpec)) policySpacedUptoCard
end Rows
end Go.Proofs.YtlmopoipjolbgaaDoor
