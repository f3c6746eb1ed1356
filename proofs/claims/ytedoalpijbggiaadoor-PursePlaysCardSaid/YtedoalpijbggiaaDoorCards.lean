/-
  DERIVED. GIVEN WITH THE SEED: THE CARDS: each row of YtedoalpijbggiaaDoorRows.lean that lists a variable, with what it lists TIED to the program's text (the seventh form; the later family's looks); each row that meets fmt, with fmt's text TOLD by the authors' own Lean function (tested against real Go, not proved from fmt's source: count such statements apart). THE CARD IS WHAT COUNTS. Prove the row's statement (the work); the ties are given (YtedoalpijbggiaaDoorTie.lean); close each card by the builder's one call (the guide's Derived/Test/ToyasCard.lean, 'card_holds'). Laid BY PROGRAM, IN A SANDBOX (cutbox-door.mjs). By AI agents, Wed Nov 11 2026. No macro, syntax, notation, axiom, sorry.
-/
import Derived.Test.YtedoalpijbggiaaDoorRows
import GoSem.ClaimSeven
namespace Go.Proofs.YtedoalpijbggiaaDoor
namespace Rows

/-- THE TIED CARD OF 'pursebearerlaw18.PursePlays'. -/
def pursePlaysCard : Claim7 := { stood := { row := pursePlaysRow, standIns := [], harness := (true, "ef090714a099c923075e4722f306e81f13ce3a76cb01993a603860a2c71e2dc7"), looks := true }, kinds := [], alts := [], laidByText := true, laidKinds := [.data, .data, .data, .sentinel, .sentinel], laidTests := true, laidLooks := .later }
def PursePlaysCardSaid : Prop := Claim7.holds Tryd.pinned (.plain (OpenSpec.ofChange pursePlaysSpec)) pursePlaysCard

/-- THE TIED CARD OF 'pursebearerlaw18.PurseConserves'. -/
def purseConservesCard : Claim7 := { stood := { row := purseConservesRow, standIns := [], harness := (true, "ef090714a099c923075e4722f306e81f13ce3a76cb01993a603860a2c71e2dc7"), looks := true }, kinds := [], alts := [], laidByText := true, laidKinds := [.data, .data, .data, .sentinel, .sentinel], laidTests := true, laidLooks := .later }
def PurseConservesCardSaid : Prop := Claim7.holds Tryd.pinned (.plain (OpenSpec.ofChange purseConservesSpec)) purseConservesCard

/-- THE TIED CARD OF 'pursebearerlaw18.PurseStays'. -/
def purseStaysCard : Claim7 := { stood := { row := purseStaysRow, standIns := [], harness := (true, "ef090714a099c923075e4722f306e81f13ce3a76cb01993a603860a2c71e2dc7"), looks := true }, kinds := [], alts := [], laidByText := true, laidKinds := [.data, .data, .data, .sentinel, .sentinel], laidTests := true, laidLooks := .later }
def PurseStaysCardSaid : Prop := Claim7.holds Tryd.pinned (.plain (OpenSpec.ofChange purseStaysSpec)) purseStaysCard

/-- THE TIED CARD OF 'pursebearerlaw18.PurseApart'. -/
def purseApartCard : Claim7 := { stood := { row := purseApartRow, standIns := [], harness := (true, "ef090714a099c923075e4722f306e81f13ce3a76cb01993a603860a2c71e2dc7"), looks := true }, kinds := [], alts := [], laidByText := true, laidKinds := [.data, .data, .data, .sentinel, .sentinel], laidTests := true, laidLooks := .later }
def PurseApartCardSaid : Prop := Claim7.holds Tryd.pinned (.plain (OpenSpec.ofChange purseApartSpec)) purseApartCard

/-- THE TIED CARD OF 'pursebearerlaw18.PurseRow'. -/
def purseRowCard : Claim7 := { stood := { row := purseRowRow, standIns := [], harness := (true, "ef090714a099c923075e4722f306e81f13ce3a76cb01993a603860a2c71e2dc7"), looks := true }, kinds := [], alts := [], laidByText := true, laidKinds := [.data, .data, .data, .sentinel, .sentinel], laidTests := true, laidLooks := .later }
def PurseRowCardSaid : Prop := Claim7.holds Tryd.pinned (.plain (OpenSpec.ofChange purseRowSpec)) purseRowCard

/-- THE TIED CARD OF 'pursebearerlaw18.PurseDeals'. -/
def purseDealsCard : Claim7 := { stood := { row := purseDealsRow, standIns := [], harness := (true, "ef090714a099c923075e4722f306e81f13ce3a76cb01993a603860a2c71e2dc7"), looks := true }, kinds := [], alts := [], laidByText := true, laidKinds := [.data, .data, .data, .sentinel, .sentinel], laidTests := true, laidLooks := .later }
def PurseDealsCardSaid : Prop := Claim7.holds Tryd.pinned (.plain (OpenSpec.ofChange purseDealsSpec)) purseDealsCard

/-- THE TIED CARD OF 'pursebearerlaw18.PurseTree'. -/
def purseTreeCard : Claim7 := { stood := { row := purseTreeRow, standIns := [], harness := (true, "ef090714a099c923075e4722f306e81f13ce3a76cb01993a603860a2c71e2dc7"), looks := true }, kinds := [], alts := [], laidByText := true, laidKinds := [.data, .data, .data, .sentinel, .sentinel], laidTests := true, laidLooks := .later }
def PurseTreeCardSaid : Prop := Claim7.holds Tryd.pinned (.plain (OpenSpec.ofChange purseTreeSpec)) purseTreeCard

/-- THE SECOND FORM's CARD OF 'pursebearerlaw18.PursePlays'. -/
def pursePlaysUptoCard : Claim7 := { stood := { row := pursePlaysUptoRow, standIns := [], harness := (true, "ef090714a099c923075e4722f306e81f13ce3a76cb01993a603860a2c71e2dc7"), looks := true }, kinds := [], alts := [], laidByText := true, laidKinds := [.data, .data, .data, .sentinel, .sentinel], laidTests := true, laidLooks := .later }
def PursePlaysUptoCardSaid : Prop := Claim7.holds Tryd.pinned (.plain (OpenSpec.upto pursePlaysSpec)) pursePlaysUptoCard

/-- THE SECOND FORM's CARD OF 'pursebearerlaw18.PurseConserves'. -/
def purseConservesUptoCard : Claim7 := { stood := { row := purseConservesUptoRow, standIns := [], harness := (true, "ef090714a099c923075e4722f306e81f13ce3a76cb01993a603860a2c71e2dc7"), looks := true }, kinds := [], alts := [], laidByText := true, laidKinds := [.data, .data, .data, .sentinel, .sentinel], laidTests := true, laidLooks := .later }
def PurseConservesUptoCardSaid : Prop := Claim7.holds Tryd.pinned (.plain (OpenSpec.upto purseConservesSpec)) purseConservesUptoCard

/-- THE SECOND FORM's CARD OF 'pursebearerlaw18.PurseStays'. -/
def purseStaysUptoCard : Claim7 := { stood := { row := purseStaysUptoRow, standIns := [], harness := (true, "ef090714a099c923075e4722f306e81f13ce3a76cb01993a603860a2c71e2dc7"), looks := true }, kinds := [], alts := [], laidByText := true, laidKinds := [.data, .data, .data, .sentinel, .sentinel], laidTests := true, laidLooks := .later }
def PurseStaysUptoCardSaid : Prop := Claim7.holds Tryd.pinned (.plain (OpenSpec.upto purseStaysSpec)) purseStaysUptoCard

/-- THE SECOND FORM's CARD OF 'pursebearerlaw18.PurseApart'. -/
def purseApartUptoCard : Claim7 := { stood := { row := purseApartUptoRow, standIns := [], harness := (true, "ef090714a099c923075e4722f306e81f13ce3a76cb01993a603860a2c71e2dc7"), looks := true }, kinds := [], alts := [], laidByText := true, laidKinds := [.data, .data, .data, .sentinel, .sentinel], laidTests := true, laidLooks := .later }
def PurseApartUptoCardSaid : Prop := Claim7.holds Tryd.pinned (.plain (OpenSpec.upto purseApartSpec)) purseApartUptoCard

/-- THE SECOND FORM's CARD OF 'pursebearerlaw18.PurseRow'. -/
def purseRowUptoCard : Claim7 := { stood := { row := purseRowUptoRow, standIns := [], harness := (true, "ef090714a099c923075e4722f306e81f13ce3a76cb01993a603860a2c71e2dc7"), looks := true }, kinds := [], alts := [], laidByText := true, laidKinds := [.data, .data, .data, .sentinel, .sentinel], laidTests := true, laidLooks := .later }
def PurseRowUptoCardSaid : Prop := Claim7.holds Tryd.pinned (.plain (OpenSpec.upto purseRowSpec)) purseRowUptoCard

/-- THE SECOND FORM's CARD OF 'pursebearerlaw18.PurseDeals'. -/
def purseDealsUptoCard : Claim7 := { stood := { row := purseDealsUptoRow, standIns := [], harness := (true, "ef090714a099c923075e4722f306e81f13ce3a76cb01993a603860a2c71e2dc7"), looks := true }, kinds := [], alts := [], laidByText := true, laidKinds := [.data, .data, .data, .sentinel, .sentinel], laidTests := true, laidLooks := .later }
def PurseDealsUptoCardSaid : Prop := Claim7.holds Tryd.pinned (.plain (OpenSpec.upto purseDealsSpec)) purseDealsUptoCard

/-- THE SECOND FORM's CARD OF 'pursebearerlaw18.PurseTree'. -/
def purseTreeUptoCard : Claim7 := { stood := { row := purseTreeUptoRow, standIns := [], harness := (true, "ef090714a099c923075e4722f306e81f13ce3a76cb01993a603860a2c71e2dc7"), looks := true }, kinds := [], alts := [], laidByText := true, laidKinds := [.data, .data, .data, .sentinel, .sentinel], laidTests := true, laidLooks := .later }
def PurseTreeUptoCardSaid : Prop := Claim7.holds Tryd.pinned (.plain (OpenSpec.upto purseTreeSpec)) purseTreeUptoCard
end Rows
end Go.Proofs.YtedoalpijbggiaaDoor
