/-
  DERIVED. GIVEN WITH THE SEED: THE CARDS: each row of YtjollcacgnfabaaDoorRows.lean that lists a variable, with what it lists TIED to the program's text (the seventh form; the later family's looks); each row that meets fmt, with fmt's text TOLD by the authors' own Lean function (tested against real Go, not proved from fmt's source: count such statements apart). THE CARD IS WHAT COUNTS. Prove the row's statement (the work); the ties are given (YtjollcacgnfabaaDoorTie.lean); close each card by the builder's one call (the guide's Derived/Test/ToyasCard.lean, 'card_holds'). Laid BY PROGRAM, IN A SANDBOX (cutbox-door.mjs). By AI agents, Wed Nov 11 2026. No macro, syntax, notation, axiom, sorry.
-/
import Derived.Test.YtjollcacgnfabaaDoorRows
import GoSem.ClaimSeven
namespace Go.Proofs.YtjollcacgnfabaaDoor
namespace Rows

/-- THE TIED CARD OF 'pursebearerlaw20.CtxChecks'. -/
def ctxChecksCard : Claim7 := { stood := { row := ctxChecksRow, standIns := [], harness := (true, "459242113a096f0d4c08fdd74e4cee0d6a7845d986f266902135e792982725cd"), looks := false }, kinds := [], alts := [], laidByText := true, laidKinds := [.data, .data, .data, .data, .pinned], laidTests := true, laidLooks := .later }
def CtxChecksCardSaid : Prop := Claim7.holds Tryd.pinned (.plain (OpenSpec.ofChange ctxChecksSpec)) ctxChecksCard

/-- THE TIED CARD OF 'pursebearerlaw20.CtxNames'. -/
def ctxNamesCard : Claim7 := { stood := { row := ctxNamesRow, standIns := [], harness := (true, "459242113a096f0d4c08fdd74e4cee0d6a7845d986f266902135e792982725cd"), looks := false }, kinds := [], alts := [], laidByText := true, laidKinds := [.data, .data, .data, .data, .pinned], laidTests := true, laidLooks := .later }
def CtxNamesCardSaid : Prop := Claim7.holds Tryd.pinned (.plain (OpenSpec.ofChange ctxNamesSpec)) ctxNamesCard

/-- THE TIED CARD OF 'pursebearerlaw20.CtxRight'. -/
def ctxRightCard : Claim7 := { stood := { row := ctxRightRow, standIns := [], harness := (true, "459242113a096f0d4c08fdd74e4cee0d6a7845d986f266902135e792982725cd"), looks := false }, kinds := [], alts := [], laidByText := true, laidKinds := [.data, .data, .data, .data, .pinned], laidTests := true, laidLooks := .later }
def CtxRightCardSaid : Prop := Claim7.holds Tryd.pinned (.plain (OpenSpec.ofChange ctxRightSpec)) ctxRightCard

/-- THE TIED CARD OF 'pursebearerlaw20.CtxKeys'. -/
def ctxKeysCard : Claim7 := { stood := { row := ctxKeysRow, standIns := [], harness := (true, "459242113a096f0d4c08fdd74e4cee0d6a7845d986f266902135e792982725cd"), looks := false }, kinds := [], alts := [], laidByText := true, laidKinds := [.data, .data, .data, .data, .pinned], laidTests := true, laidLooks := .later }
def CtxKeysCardSaid : Prop := Claim7.holds Tryd.pinned (.plain (OpenSpec.ofChange ctxKeysSpec)) ctxKeysCard

/-- THE TIED CARD OF 'pursebearerlaw20.CtxTree'. -/
def ctxTreeCard : Claim7 := { stood := { row := ctxTreeRow, standIns := [], harness := (true, "459242113a096f0d4c08fdd74e4cee0d6a7845d986f266902135e792982725cd"), looks := false }, kinds := [], alts := [], laidByText := true, laidKinds := [.data, .data, .data, .data, .pinned], laidTests := true, laidLooks := .later }
def CtxTreeCardSaid : Prop := Claim7.holds Tryd.pinned (.plain (OpenSpec.ofChange ctxTreeSpec)) ctxTreeCard

/-- THE TIED CARD OF 'pursebearerlaw20.CtxPurse'. -/
def ctxPurseCard : Claim7 := { stood := { row := ctxPurseRow, standIns := [], harness := (true, "459242113a096f0d4c08fdd74e4cee0d6a7845d986f266902135e792982725cd"), looks := false }, kinds := [], alts := [], laidByText := true, laidKinds := [.data, .data, .data, .data, .pinned], laidTests := true, laidLooks := .later }
def CtxPurseCardSaid : Prop := Claim7.holds Tryd.pinned (.plain (OpenSpec.ofChange ctxPurseSpec)) ctxPurseCard

/-- THE TIED CARD OF 'pursebearerlaw20.CtxMakes'. -/
def ctxMakesCard : Claim7 := { stood := { row := ctxMakesRow, standIns := [], harness := (true, "459242113a096f0d4c08fdd74e4cee0d6a7845d986f266902135e792982725cd"), looks := false }, kinds := [], alts := [], laidByText := true, laidKinds := [.data, .data, .data, .data, .pinned], laidTests := true, laidLooks := .later }
def CtxMakesCardSaid : Prop := Claim7.holds Tryd.pinned (.plain (OpenSpec.ofChange ctxMakesSpec)) ctxMakesCard

/-- THE SECOND FORM's CARD OF 'pursebearerlaw20.CtxChecks'. -/
def ctxChecksUptoCard : Claim7 := { stood := { row := ctxChecksUptoRow, standIns := [], harness := (true, "459242113a096f0d4c08fdd74e4cee0d6a7845d986f266902135e792982725cd"), looks := false }, kinds := [], alts := [], laidByText := true, laidKinds := [.data, .data, .data, .data, .pinned], laidTests := true, laidLooks := .later }
def CtxChecksUptoCardSaid : Prop := Claim7.holds Tryd.pinned (.plain (OpenSpec.upto ctxChecksSpec)) ctxChecksUptoCard

/-- THE SECOND FORM's CARD OF 'pursebearerlaw20.CtxNames'. -/
def ctxNamesUptoCard : Claim7 := { stood := { row := ctxNamesUptoRow, standIns := [], harness := (true, "459242113a096f0d4c08fdd74e4cee0d6a7845d986f266902135e792982725cd"), looks := false }, kinds := [], alts := [], laidByText := true, laidKinds := [.data, .data, .data, .data, .pinned], laidTests := true, laidLooks := .later }
def CtxNamesUptoCardSaid : Prop := Claim7.holds Tryd.pinned (.plain (OpenSpec.upto ctxNamesSpec)) ctxNamesUptoCard

/-- THE SECOND FORM's CARD OF 'pursebearerlaw20.CtxRight'. -/
def ctxRightUptoCard : Claim7 := { stood := { row := ctxRightUptoRow, standIns := [], harness := (true, "459242113a096f0d4c08fdd74e4cee0d6a7845d986f266902135e792982725cd"), looks := false }, kinds := [], alts := [], laidByText := true, laidKinds := [.data, .data, .data, .data, .pinned], laidTests := true, laidLooks := .later }
def CtxRightUptoCardSaid : Prop := Claim7.holds Tryd.pinned (.plain (OpenSpec.upto ctxRightSpec)) ctxRightUptoCard

/-- THE SECOND FORM's CARD OF 'pursebearerlaw20.CtxKeys'. -/
def ctxKeysUptoCard : Claim7 := { stood := { row := ctxKeysUptoRow, standIns := [], harness := (true, "459242113a096f0d4c08fdd74e4cee0d6a7845d986f266902135e792982725cd"), looks := false }, kinds := [], alts := [], laidByText := true, laidKinds := [.data, .data, .data, .data, .pinned], laidTests := true, laidLooks := .later }
def CtxKeysUptoCardSaid : Prop := Claim7.holds Tryd.pinned (.plain (OpenSpec.upto ctxKeysSpec)) ctxKeysUptoCard

/-- THE SECOND FORM's CARD OF 'pursebearerlaw20.CtxTree'. -/
def ctxTreeUptoCard : Claim7 := { stood := { row := ctxTreeUptoRow, standIns := [], harness := (true, "459242113a096f0d4c08fdd74e4cee0d6a7845d986f266902135e792982725cd"), looks := false }, kinds := [], alts := [], laidByText := true, laidKinds := [.data, .data, .data, .data, .pinned], laidTests := true, laidLooks := .later }
def CtxTreeUptoCardSaid : Prop := Claim7.holds Tryd.pinned (.plain (OpenSpec.upto ctxTreeSpec)) ctxTreeUptoCard

/-- THE SECOND FORM's CARD OF 'pursebearerlaw20.CtxPurse'. -/
def ctxPurseUptoCard : Claim7 := { stood := { row := ctxPurseUptoRow, standIns := [], harness := (true, "459242113a096f0d4c08fdd74e4cee0d6a7845d986f266902135e792982725cd"), looks := false }, kinds := [], alts := [], laidByText := true, laidKinds := [.data, .data, .data, .data, .pinned], laidTests := true, laidLooks := .later }
def CtxPurseUptoCardSaid : Prop := Claim7.holds Tryd.pinned (.plain (OpenSpec.upto ctxPurseSpec)) ctxPurseUptoCard

/-- THE SECOND FORM's CARD OF 'pursebearerlaw20.CtxMakes'. -/
def ctxMakesUptoCard : Claim7 := { stood := { row := ctxMakesUptoRow, standIns := [], harness := (true, "459242113a096f0d4c08fdd74e4cee0d6a7845d986f266902135e792982725cd"), looks := false }, kinds := [], alts := [], laidByText := true, laidKinds := [.data, .data, .data, .data, .pinned], laidTests := true, laidLooks := .later }
def CtxMakesUptoCardSaid : Prop := Claim7.holds Tryd.pinned (.plain (OpenSpec.upto ctxMakesSpec)) ctxMakesUptoCard
end Rows
end Go.Proofs.YtjollcacgnfabaaDoor
