/-
  DERIVED. GIVEN WITH THE SEED: THE CARDS: each row of YtkpjjhiighakfaaGreatDoorRows.lean that lists a variable, with what it lists TIED to the program's text (the seventh form; the later family's looks); each row that meets fmt, with fmt's text TOLD by the authors' own Lean function (tested against real Go, not proved from fmt's source: count such statements apart). THE CARD IS WHAT COUNTS. Prove the row's statement (the work); the ties are given (YtkpjjhiighakfaaGreatDoorTie.lean); close each card by the builder's one call (the guide's Derived/Test/ToyasCard.lean, 'card_holds'). Laid BY PROGRAM, IN A SANDBOX (cutbox-door.mjs). By AI agents, Wed Nov 11 2026. No macro, syntax, notation, axiom, sorry.
-/
import Derived.Test.YtkpjjhiighakfaaGreatDoorRows
import GoSem.ClaimSeven
namespace Go.Proofs.YtkpjjhiighakfaaGreatDoor
namespace Rows

/-- THE TIED CARD OF 'pursebearerlaw31.CallNames'. -/
def callNamesCard : Claim7 := { stood := { row := callNamesRow, standIns := [], harness := (true, "b70073a2c78ce14f2525956f3737e418a17c9af59ae6c2b893ca3f77b1b674a3"), looks := false }, kinds := [], alts := [], laidByText := true, laidKinds := [.data, .data, .data, .data, .pinned], laidTests := true, laidLooks := .later }
def CallNamesCardSaid : Prop := Claim7.holds Tryz.pinned (.plain (OpenSpec.ofChange callNamesSpec)) callNamesCard

/-- THE SECOND FORM's CARD OF 'pursebearerlaw31.CallNames'. -/
def callNamesUptoCard : Claim7 := { stood := { row := callNamesUptoRow, standIns := [], harness := (true, "b70073a2c78ce14f2525956f3737e418a17c9af59ae6c2b893ca3f77b1b674a3"), looks := false }, kinds := [], alts := [], laidByText := true, laidKinds := [.data, .data, .data, .data, .pinned], laidTests := true, laidLooks := .later }
def CallNamesUptoCardSaid : Prop := Claim7.holds Tryz.pinned (.plain (OpenSpec.upto callNamesSpec)) callNamesUptoCard
end Rows
end Go.Proofs.YtkpjjhiighakfaaGreatDoor
