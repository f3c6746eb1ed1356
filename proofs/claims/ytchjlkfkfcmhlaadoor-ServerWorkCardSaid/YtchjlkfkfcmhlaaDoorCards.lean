/-
  DERIVED. GIVEN WITH THE SEED: THE CARDS: each row of YtchjlkfkfcmhlaaDoorRows.lean that lists a variable, with what it lists TIED to the program's text (the seventh form; the later family's looks); each row that meets fmt, with fmt's text TOLD by the authors' own Lean function (tested against real Go, not proved from fmt's source: count such statements apart). THE CARD IS WHAT COUNTS. Prove the row's statement (the work); the ties are given (YtchjlkfkfcmhlaaDoorTie.lean); close each card by the builder's one call (the guide's Derived/Test/ToyasCard.lean, 'card_holds'). Laid BY PROGRAM, IN A SANDBOX (cutbox-door.mjs). By AI agents, Wed Nov 11 2026. No macro, syntax, notation, axiom, sorry.
-/
import Derived.Test.YtchjlkfkfcmhlaaDoorRows
import GoSem.ClaimSeven
namespace Go.Proofs.YtchjlkfkfcmhlaaDoor
namespace Rows

/-- THE TIED CARD OF 'pursebearerlaw26.ServerWork'. -/
def serverWorkCard : Claim7 := { stood := { row := serverWorkRow, standIns := [], harness := (true, "f5f3884ce983bed74413d8a2e83590262e6d86575837a79a8af7024500c53bcc"), looks := false }, kinds := [], alts := [], laidByText := true, laidKinds := [.data, .data, .data, .data, .pinned], laidTests := true, laidLooks := .later }
def ServerWorkCardSaid : Prop := Claim7.holds Tryd.pinned (.plain (OpenSpec.ofChange serverWorkSpec)) serverWorkCard

/-- THE TIED CARD OF 'pursebearerlaw26.ServerOnce'. -/
def serverOnceCard : Claim7 := { stood := { row := serverOnceRow, standIns := [], harness := (true, "f5f3884ce983bed74413d8a2e83590262e6d86575837a79a8af7024500c53bcc"), looks := false }, kinds := [], alts := [], laidByText := true, laidKinds := [.data, .data, .data, .data, .pinned], laidTests := true, laidLooks := .later }
def ServerOnceCardSaid : Prop := Claim7.holds Tryd.pinned (.plain (OpenSpec.ofChange serverOnceSpec)) serverOnceCard

/-- THE TIED CARD OF 'pursebearerlaw26.ServerTime'. -/
def serverTimeCard : Claim7 := { stood := { row := serverTimeRow, standIns := [], harness := (true, "f5f3884ce983bed74413d8a2e83590262e6d86575837a79a8af7024500c53bcc"), looks := false }, kinds := [], alts := [], laidByText := true, laidKinds := [.data, .data, .data, .data, .pinned], laidTests := true, laidLooks := .later }
def ServerTimeCardSaid : Prop := Claim7.holds Tryd.pinned (.plain (OpenSpec.ofChange serverTimeSpec)) serverTimeCard

/-- THE TIED CARD OF 'pursebearerlaw26.ServerEach'. -/
def serverEachCard : Claim7 := { stood := { row := serverEachRow, standIns := [], harness := (true, "f5f3884ce983bed74413d8a2e83590262e6d86575837a79a8af7024500c53bcc"), looks := false }, kinds := [], alts := [], laidByText := true, laidKinds := [.data, .data, .data, .data, .pinned], laidTests := true, laidLooks := .later }
def ServerEachCardSaid : Prop := Claim7.holds Tryd.pinned (.plain (OpenSpec.ofChange serverEachSpec)) serverEachCard

/-- THE TIED CARD OF 'pursebearerlaw26.ServerDrains'. -/
def serverDrainsCard : Claim7 := { stood := { row := serverDrainsRow, standIns := [], harness := (true, "f5f3884ce983bed74413d8a2e83590262e6d86575837a79a8af7024500c53bcc"), looks := false }, kinds := [], alts := [], laidByText := true, laidKinds := [.data, .data, .data, .data, .pinned], laidTests := true, laidLooks := .later }
def ServerDrainsCardSaid : Prop := Claim7.holds Tryd.pinned (.plain (OpenSpec.ofChange serverDrainsSpec)) serverDrainsCard

/-- THE TIED CARD OF 'pursebearerlaw26.ServerCrash'. -/
def serverCrashCard : Claim7 := { stood := { row := serverCrashRow, standIns := [], harness := (true, "f5f3884ce983bed74413d8a2e83590262e6d86575837a79a8af7024500c53bcc"), looks := false }, kinds := [], alts := [], laidByText := true, laidKinds := [.data, .data, .data, .data, .pinned], laidTests := true, laidLooks := .later }
def ServerCrashCardSaid : Prop := Claim7.holds Tryd.pinned (.plain (OpenSpec.ofChange serverCrashSpec)) serverCrashCard

/-- THE SECOND FORM's CARD OF 'pursebearerlaw26.ServerWork'. -/
def serverWorkUptoCard : Claim7 := { stood := { row := serverWorkUptoRow, standIns := [], harness := (true, "f5f3884ce983bed74413d8a2e83590262e6d86575837a79a8af7024500c53bcc"), looks := false }, kinds := [], alts := [], laidByText := true, laidKinds := [.data, .data, .data, .data, .pinned], laidTests := true, laidLooks := .later }
def ServerWorkUptoCardSaid : Prop := Claim7.holds Tryd.pinned (.plain (OpenSpec.upto serverWorkSpec)) serverWorkUptoCard

/-- THE SECOND FORM's CARD OF 'pursebearerlaw26.ServerOnce'. -/
def serverOnceUptoCard : Claim7 := { stood := { row := serverOnceUptoRow, standIns := [], harness := (true, "f5f3884ce983bed74413d8a2e83590262e6d86575837a79a8af7024500c53bcc"), looks := false }, kinds := [], alts := [], laidByText := true, laidKinds := [.data, .data, .data, .data, .pinned], laidTests := true, laidLooks := .later }
def ServerOnceUptoCardSaid : Prop := Claim7.holds Tryd.pinned (.plain (OpenSpec.upto serverOnceSpec)) serverOnceUptoCard

/-- THE SECOND FORM's CARD OF 'pursebearerlaw26.ServerTime'. -/
def serverTimeUptoCard : Claim7 := { stood := { row := serverTimeUptoRow, standIns := [], harness := (true, "f5f3884ce983bed74413d8a2e83590262e6d86575837a79a8af7024500c53bcc"), looks := false }, kinds := [], alts := [], laidByText := true, laidKinds := [.data, .data, .data, .data, .pinned], laidTests := true, laidLooks := .later }
def ServerTimeUptoCardSaid : Prop := Claim7.holds Tryd.pinned (.plain (OpenSpec.upto serverTimeSpec)) serverTimeUptoCard

/-- THE SECOND FORM's CARD OF 'pursebearerlaw26.ServerEach'. -/
def serverEachUptoCard : Claim7 := { stood := { row := serverEachUptoRow, standIns := [], harness := (true, "f5f3884ce983bed74413d8a2e83590262e6d86575837a79a8af7024500c53bcc"), looks := false }, kinds := [], alts := [], laidByText := true, laidKinds := [.data, .data, .data, .data, .pinned], laidTests := true, laidLooks := .later }
def ServerEachUptoCardSaid : Prop := Claim7.holds Tryd.pinned (.plain (OpenSpec.upto serverEachSpec)) serverEachUptoCard

/-- THE SECOND FORM's CARD OF 'pursebearerlaw26.ServerDrains'. -/
def serverDrainsUptoCard : Claim7 := { stood := { row := serverDrainsUptoRow, standIns := [], harness := (true, "f5f3884ce983bed74413d8a2e83590262e6d86575837a79a8af7024500c53bcc"), looks := false }, kinds := [], alts := [], laidByText := true, laidKinds := [.data, .data, .data, .data, .pinned], laidTests := true, laidLooks := .later }
def ServerDrainsUptoCardSaid : Prop := Claim7.holds Tryd.pinned (.plain (OpenSpec.upto serverDrainsSpec)) serverDrainsUptoCard

/-- THE SECOND FORM's CARD OF 'pursebearerlaw26.ServerCrash'. -/
def serverCrashUptoCard : Claim7 := { stood := { row := serverCrashUptoRow, standIns := [], harness := (true, "f5f3884ce983bed74413d8a2e83590262e6d86575837a79a8af7024500c53bcc"), looks := false }, kinds := [], alts := [], laidByText := true, laidKinds := [.data, .data, .data, .data, .pinned], laidTests := true, laidLooks := .later }
def ServerCrashUptoCardSaid : Prop := Claim7.holds Tryd.pinned (.plain (OpenSpec.upto serverCrashSpec)) serverCrashUptoCard
end Rows
end Go.Proofs.YtchjlkfkfcmhlaaDoor
