/-
  No cell of these rows narrows 'for every input' (looked for: loops, veiled, ifaces, maps, wideKeys, modest, calm, conditions, laid).
  DERIVED. THE GIVEN ROWS OF THIS SEAT. 6 by the template 'for every input the law returns true; each argument reads behind the call as it read before'; 0 by the template 'total and deterministic' (their statements: YtipmajcefcfnlaaTotals.lean).
  GIVEN WITH THE SEED: the statements are not yours to turn. If you find one false, say at which input.
  Laid BY PROGRAM, IN A SANDBOX (cutbox-rows.mjs): the forced cells as the released guide's own fill.sh prints them over the translation 63471276b2cfcb41… (all of the seat's roots in one cut). By AI agents, Wed Nov 11 2026. No macro, syntax, notation, axiom, sorry.
-/
import Derived.Test.YtipmajcefcfnlaaChecked
import GoSem.Claim
import GoSem.ClaimJoined
import GoSem.ClaimMapViews
import Derived.JoinedTies
import Derived.KernelRfl
namespace Go.Proofs.Ytipmajcefcfnlaa
/- THE CELL 'sum', in the pinned program and in every row, IS THE sha256 OF THE DUMP (.gsa) THAT YtipmajcefcfnlaaProg.lean LOADS. Nothing in Lean hashes anything: it is a label: what it is worth is what the hold of that sum in a sandbox is worth. -/
noncomputable def Try.pinned : Pinned := { name := "ytipmajcefcfnlaa", sum := "63471276b2cfcb4177f341c4984fdd12584f3cd9f6f8e2b06613cdb3c5e67467", checked := Try.checked }
namespace Rows
def none {H : Type} : Left H := { results := [], args := [] }

/-- 'pursebearerlaw31.CallOpens': WHATEVER THE INPUT: true; the input reads as it did. -/
def callOpensSpec : ChangeSpec := { name := "callOpens", fn := fun _ => fun
  | [d1, d2, d3] => { results := [.lit (.bool true)], args := [d1, d2, d3] }
  | _ => none }
def callOpensRow : OpenClaim := { program := "ytipmajcefcfnlaa", sum := "63471276b2cfcb4177f341c4984fdd12584f3cd9f6f8e2b06613cdb3c5e67467", func := "pursebearer/pursebearerlaw31.CallOpens", spec := "callOpens", unfollowed := true, recurses := true, apart := false }
def CallOpensSaid : Prop := callOpensRow.holds Try.pinned (OpenSpec.ofChange callOpensSpec)

/-- ITS FALSE NEIGHBOUR: 'it returns false'. Refute it at one input. -/
def callOpensWrong : ChangeSpec := { name := "callOpens", fn := fun _ => fun
  | [d1, d2, d3] => { results := [.lit (.bool false)], args := [d1, d2, d3] }
  | _ => none }
def CallOpensWrongFalsely : Prop := callOpensRow.holds Try.pinned (OpenSpec.ofChange callOpensWrong)

/-- 'pursebearerlaw31.CallSpends': WHATEVER THE INPUT: true; the input reads as it did. -/
def callSpendsSpec : ChangeSpec := { name := "callSpends", fn := fun _ => fun
  | [d1, d2, d3] => { results := [.lit (.bool true)], args := [d1, d2, d3] }
  | _ => none }
def callSpendsRow : OpenClaim := { program := "ytipmajcefcfnlaa", sum := "63471276b2cfcb4177f341c4984fdd12584f3cd9f6f8e2b06613cdb3c5e67467", func := "pursebearer/pursebearerlaw31.CallSpends", spec := "callSpends", unfollowed := true, recurses := true, apart := false }
def CallSpendsSaid : Prop := callSpendsRow.holds Try.pinned (OpenSpec.ofChange callSpendsSpec)

/-- ITS FALSE NEIGHBOUR: 'it returns false'. Refute it at one input. -/
def callSpendsWrong : ChangeSpec := { name := "callSpends", fn := fun _ => fun
  | [d1, d2, d3] => { results := [.lit (.bool false)], args := [d1, d2, d3] }
  | _ => none }
def CallSpendsWrongFalsely : Prop := callSpendsRow.holds Try.pinned (OpenSpec.ofChange callSpendsWrong)

/-- 'pursebearerlaw31.CallEnds': WHATEVER THE INPUT: true; the input reads as it did. -/
def callEndsSpec : ChangeSpec := { name := "callEnds", fn := fun _ => fun
  | [d1, d2, d3, d4] => { results := [.lit (.bool true)], args := [d1, d2, d3, d4] }
  | _ => none }
def callEndsRow : OpenClaim := { program := "ytipmajcefcfnlaa", sum := "63471276b2cfcb4177f341c4984fdd12584f3cd9f6f8e2b06613cdb3c5e67467", func := "pursebearer/pursebearerlaw31.CallEnds", spec := "callEnds", unfollowed := true, recurses := true, apart := false }
def CallEndsSaid : Prop := callEndsRow.holds Try.pinned (OpenSpec.ofChange callEndsSpec)

/-- ITS FALSE NEIGHBOUR: 'it returns false'. Refute it at one input. -/
def callEndsWrong : ChangeSpec := { name := "callEnds", fn := fun _ => fun
  | [d1, d2, d3, d4] => { results := [.lit (.bool false)], args := [d1, d2, d3, d4] }
  | _ => none }
def CallEndsWrongFalsely : Prop := callEndsRow.holds Try.pinned (OpenSpec.ofChange callEndsWrong)

/-- 'pursebearerlaw31.CallBack': WHATEVER THE INPUT: true; the input reads as it did. -/
def callBackSpec : ChangeSpec := { name := "callBack", fn := fun _ => fun
  | [d1, d2, d3] => { results := [.lit (.bool true)], args := [d1, d2, d3] }
  | _ => none }
def callBackRow : OpenClaim := { program := "ytipmajcefcfnlaa", sum := "63471276b2cfcb4177f341c4984fdd12584f3cd9f6f8e2b06613cdb3c5e67467", func := "pursebearer/pursebearerlaw31.CallBack", spec := "callBack", unfollowed := true, recurses := true, apart := false }
def CallBackSaid : Prop := callBackRow.holds Try.pinned (OpenSpec.ofChange callBackSpec)

/-- ITS FALSE NEIGHBOUR: 'it returns false'. Refute it at one input. -/
def callBackWrong : ChangeSpec := { name := "callBack", fn := fun _ => fun
  | [d1, d2, d3] => { results := [.lit (.bool false)], args := [d1, d2, d3] }
  | _ => none }
def CallBackWrongFalsely : Prop := callBackRow.holds Try.pinned (OpenSpec.ofChange callBackWrong)

/-- 'pursebearerlaw31.CallBeside': WHATEVER THE INPUT: true; the input reads as it did. -/
def callBesideSpec : ChangeSpec := { name := "callBeside", fn := fun _ => fun
  | [d1, d2] => { results := [.lit (.bool true)], args := [d1, d2] }
  | _ => none }
def callBesideRow : OpenClaim := { program := "ytipmajcefcfnlaa", sum := "63471276b2cfcb4177f341c4984fdd12584f3cd9f6f8e2b06613cdb3c5e67467", func := "pursebearer/pursebearerlaw31.CallBeside", spec := "callBeside", unfollowed := true, recurses := true, apart := false }
def CallBesideSaid : Prop := callBesideRow.holds Try.pinned (OpenSpec.ofChange callBesideSpec)

/-- ITS FALSE NEIGHBOUR: 'it returns false'. Refute it at one input. -/
def callBesideWrong : ChangeSpec := { name := "callBeside", fn := fun _ => fun
  | [d1, d2] => { results := [.lit (.bool false)], args := [d1, d2] }
  | _ => none }
def CallBesideWrongFalsely : Prop := callBesideRow.holds Try.pinned (OpenSpec.ofChange callBesideWrong)

/-- 'pursebearerlaw31.CallTokens': WHATEVER THE INPUT: true; the input reads as it did. -/
def callTokensSpec : ChangeSpec := { name := "callTokens", fn := fun _ => fun
  | [d1, d2, d3] => { results := [.lit (.bool true)], args := [d1, d2, d3] }
  | _ => none }
def callTokensRow : OpenClaim := { program := "ytipmajcefcfnlaa", sum := "63471276b2cfcb4177f341c4984fdd12584f3cd9f6f8e2b06613cdb3c5e67467", func := "pursebearer/pursebearerlaw31.CallTokens", spec := "callTokens", unfollowed := true, recurses := true, named := ["math/bits.divideError", "math/bits.overflowError"], apart := false }
def CallTokensSaid : Prop := callTokensRow.holds Try.pinned (OpenSpec.ofChange callTokensSpec)

/-- ITS FALSE NEIGHBOUR: 'it returns false'. Refute it at one input. -/
def callTokensWrong : ChangeSpec := { name := "callTokens", fn := fun _ => fun
  | [d1, d2, d3] => { results := [.lit (.bool false)], args := [d1, d2, d3] }
  | _ => none }
def CallTokensWrongFalsely : Prop := callTokensRow.holds Try.pinned (OpenSpec.ofChange callTokensWrong)

/- THE SECOND FORM. 'bulk': how many values and letters a reading holds, each counted each time it is reached (what is shared counts as often as it is met; a slice's spare places count too). A statement '..UptoSaid' is the law's where the arguments, and the package variables that the reading takes, are together of bulk at most 1048576: NARROWER than '..Said'. Prove '..Said' where nothing that the law and all that it calls make is longer than what came in: it says more and counts as full. Else prove '..UptoSaid'. A law counts once. -/
mutual
def uptoBulk {H : Type} : DataW H → Nat
  | .lit (.string bytes) => bytes.length + 1
  | .lit _ => 1
  | .nil => 1
  | .ptr d => uptoBulk d + 1
  | .slice elems spare => uptoBulkAll elems + uptoBulkAll spare + 1
  | .agg parts => uptoBulkAll parts + 1
  | .iface _ d => uptoBulk d + 1
  | .map entries => uptoBulkEntries entries + 1
  | .held _ => 1
def uptoBulkAll {H : Type} : List (DataW H) → Nat
  | [] => 0
  | d :: r => uptoBulk d + uptoBulkAll r
def uptoBulkEntries {H : Type} : List (Lit × DataW H) → Nat
  | [] => 0
  | x :: r => uptoBulkEntry x + uptoBulkEntries r
def uptoBulkEntry {H : Type} : Lit × DataW H → Nat
  | (.string bytes, d) => bytes.length + uptoBulk d + 1
  | (_, d) => uptoBulk d + 1
 end
def uptoSmall : (H : Type) → List (DataW H) → Bool := fun _ ds => decide (uptoBulkAll ds ≤ 1048576)
def OpenSpec.upto (s : _root_.Go.ChangeSpec) : _root_.Go.OpenSpec := { _root_.Go.OpenSpec.ofChange s with cond := some uptoSmall }

/-- 'pursebearerlaw31.CallOpens', WHERE WHAT IT READS IS OF BULK AT MOST 1048576: true; the input reads as it did. -/
def callOpensUptoRow : OpenClaim := { program := "ytipmajcefcfnlaa", sum := "63471276b2cfcb4177f341c4984fdd12584f3cd9f6f8e2b06613cdb3c5e67467", func := "pursebearer/pursebearerlaw31.CallOpens", spec := "callOpens", unfollowed := true, recurses := true, apart := false, narrowed := true }
def CallOpensUptoSaid : Prop := callOpensUptoRow.holds Try.pinned (OpenSpec.upto callOpensSpec)

/-- 'pursebearerlaw31.CallSpends', WHERE WHAT IT READS IS OF BULK AT MOST 1048576: true; the input reads as it did. -/
def callSpendsUptoRow : OpenClaim := { program := "ytipmajcefcfnlaa", sum := "63471276b2cfcb4177f341c4984fdd12584f3cd9f6f8e2b06613cdb3c5e67467", func := "pursebearer/pursebearerlaw31.CallSpends", spec := "callSpends", unfollowed := true, recurses := true, apart := false, narrowed := true }
def CallSpendsUptoSaid : Prop := callSpendsUptoRow.holds Try.pinned (OpenSpec.upto callSpendsSpec)

/-- 'pursebearerlaw31.CallEnds', WHERE WHAT IT READS IS OF BULK AT MOST 1048576: true; the input reads as it did. -/
def callEndsUptoRow : OpenClaim := { program := "ytipmajcefcfnlaa", sum := "63471276b2cfcb4177f341c4984fdd12584f3cd9f6f8e2b06613cdb3c5e67467", func := "pursebearer/pursebearerlaw31.CallEnds", spec := "callEnds", unfollowed := true, recurses := true, apart := false, narrowed := true }
def CallEndsUptoSaid : Prop := callEndsUptoRow.holds Try.pinned (OpenSpec.upto callEndsSpec)

/-- 'pursebearerlaw31.CallBack', WHERE WHAT IT READS IS OF BULK AT MOST 1048576: true; the input reads as it did. -/
def callBackUptoRow : OpenClaim := { program := "ytipmajcefcfnlaa", sum := "63471276b2cfcb4177f341c4984fdd12584f3cd9f6f8e2b06613cdb3c5e67467", func := "pursebearer/pursebearerlaw31.CallBack", spec := "callBack", unfollowed := true, recurses := true, apart := false, narrowed := true }
def CallBackUptoSaid : Prop := callBackUptoRow.holds Try.pinned (OpenSpec.upto callBackSpec)

/-- 'pursebearerlaw31.CallBeside', WHERE WHAT IT READS IS OF BULK AT MOST 1048576: true; the input reads as it did. -/
def callBesideUptoRow : OpenClaim := { program := "ytipmajcefcfnlaa", sum := "63471276b2cfcb4177f341c4984fdd12584f3cd9f6f8e2b06613cdb3c5e67467", func := "pursebearer/pursebearerlaw31.CallBeside", spec := "callBeside", unfollowed := true, recurses := true, apart := false, narrowed := true }
def CallBesideUptoSaid : Prop := callBesideUptoRow.holds Try.pinned (OpenSpec.upto callBesideSpec)

/-- 'pursebearerlaw31.CallTokens', WHERE WHAT IT READS IS OF BULK AT MOST 1048576: true; the input reads as it did. -/
def callTokensUptoRow : OpenClaim := { program := "ytipmajcefcfnlaa", sum := "63471276b2cfcb4177f341c4984fdd12584f3cd9f6f8e2b06613cdb3c5e67467", func := "pursebearer/pursebearerlaw31.CallTokens", spec := "callTokens", unfollowed := true, recurses := true, named := ["math/bits.divideError", "math/bits.overflowError"], apart := false, narrowed := true }
def CallTokensUptoSaid : Prop := callTokensUptoRow.holds Try.pinned (OpenSpec.upto callTokensSpec)

end Rows
end Go.Proofs.Ytipmajcefcfnlaa
