/-
  No cell of these rows narrows 'for every input' (looked for: loops, veiled, ifaces, maps, wideKeys, modest, calm, conditions, laid).
  DERIVED. THE GIVEN ROWS OF THIS SEAT. 4 by the template 'for every input the law returns true; each argument reads behind the call as it read before'; 0 by the template 'total and deterministic' (their statements: YtcplimefklnknaaTotals.lean).
  GIVEN WITH THE SEED: the statements are not yours to turn. If you find one false, say at which input.
  Laid BY PROGRAM, IN A SANDBOX (cutbox-rows.mjs): the forced cells as the released guide's own fill.sh prints them over the translation 6f3f792714c3f6f2… (all of the seat's roots in one cut). By AI agents, Wed Nov 11 2026. No macro, syntax, notation, axiom, sorry.
-/
import Derived.Test.YtcplimefklnknaaChecked
import GoSem.Claim
import GoSem.ClaimJoined
import GoSem.ClaimMapViews
import Derived.JoinedTies
import Derived.KernelRfl
namespace Go.Proofs.Ytcplimefklnknaa
/- THE CELL 'sum', in the pinned program and in every row, IS THE sha256 OF THE DUMP (.gsa) THAT YtcplimefklnknaaProg.lean LOADS. Nothing in Lean hashes anything: it is a label: what it is worth is what the hold of that sum in a sandbox is worth. -/
noncomputable def Try.pinned : Pinned := { name := "ytcplimefklnknaa", sum := "6f3f792714c3f6f2621ab2fbd75a6ebd8c11d9b4769de9567e135ccf1a94bf3b", checked := Try.checked }
namespace Rows
def none {H : Type} : Left H := { results := [], args := [] }

/-- 'pursebearerlaw03.AlarmParts': WHATEVER THE INPUT: true; the input reads as it did. -/
def alarmPartsSpec : ChangeSpec := { name := "alarmParts", fn := fun _ => fun
  | [d1, d2, d3] => { results := [.lit (.bool true)], args := [d1, d2, d3] }
  | _ => none }
def alarmPartsRow : OpenClaim := { program := "ytcplimefklnknaa", sum := "6f3f792714c3f6f2621ab2fbd75a6ebd8c11d9b4769de9567e135ccf1a94bf3b", func := "pursebearer/pursebearerlaw03.AlarmParts", spec := "alarmParts", inPlace := ["slices.overlaps[pursebearer/alarm.entry]"], unfollowed := true, recurses := true, apart := false }
def AlarmPartsSaid : Prop := alarmPartsRow.holds Try.pinned (OpenSpec.ofChange alarmPartsSpec)

/-- ITS FALSE NEIGHBOUR: 'it returns false'. Refute it at one input. -/
def alarmPartsWrong : ChangeSpec := { name := "alarmParts", fn := fun _ => fun
  | [d1, d2, d3] => { results := [.lit (.bool false)], args := [d1, d2, d3] }
  | _ => none }
def AlarmPartsWrongFalsely : Prop := alarmPartsRow.holds Try.pinned (OpenSpec.ofChange alarmPartsWrong)

/-- 'pursebearerlaw03.AlarmAnew': WHATEVER THE INPUT: true; the input reads as it did. -/
def alarmAnewSpec : ChangeSpec := { name := "alarmAnew", fn := fun _ => fun
  | [d1, d2] => { results := [.lit (.bool true)], args := [d1, d2] }
  | _ => none }
def alarmAnewRow : OpenClaim := { program := "ytcplimefklnknaa", sum := "6f3f792714c3f6f2621ab2fbd75a6ebd8c11d9b4769de9567e135ccf1a94bf3b", func := "pursebearer/pursebearerlaw03.AlarmAnew", spec := "alarmAnew", inPlace := ["slices.overlaps[pursebearer/alarm.entry]"], unfollowed := true, recurses := true, apart := false }
def AlarmAnewSaid : Prop := alarmAnewRow.holds Try.pinned (OpenSpec.ofChange alarmAnewSpec)

/-- ITS FALSE NEIGHBOUR: 'it returns false'. Refute it at one input. -/
def alarmAnewWrong : ChangeSpec := { name := "alarmAnew", fn := fun _ => fun
  | [d1, d2] => { results := [.lit (.bool false)], args := [d1, d2] }
  | _ => none }
def AlarmAnewWrongFalsely : Prop := alarmAnewRow.holds Try.pinned (OpenSpec.ofChange alarmAnewWrong)

/-- 'pursebearerlaw03.AlarmSorted': WHATEVER THE INPUT: true; the input reads as it did. -/
def alarmSortedSpec : ChangeSpec := { name := "alarmSorted", fn := fun _ => fun
  | [d] => { results := [.lit (.bool true)], args := [d] }
  | _ => none }
def alarmSortedRow : OpenClaim := { program := "ytcplimefklnknaa", sum := "6f3f792714c3f6f2621ab2fbd75a6ebd8c11d9b4769de9567e135ccf1a94bf3b", func := "pursebearer/pursebearerlaw03.AlarmSorted", spec := "alarmSorted", inPlace := ["slices.overlaps[pursebearer/alarm.entry]"], unfollowed := true, recurses := true, apart := false }
def AlarmSortedSaid : Prop := alarmSortedRow.holds Try.pinned (OpenSpec.ofChange alarmSortedSpec)

/-- ITS FALSE NEIGHBOUR: 'it returns false'. Refute it at one input. -/
def alarmSortedWrong : ChangeSpec := { name := "alarmSorted", fn := fun _ => fun
  | [d] => { results := [.lit (.bool false)], args := [d] }
  | _ => none }
def AlarmSortedWrongFalsely : Prop := alarmSortedRow.holds Try.pinned (OpenSpec.ofChange alarmSortedWrong)

/-- 'pursebearerlaw03.AlarmApart': WHATEVER THE INPUT: true; the input reads as it did. -/
def alarmApartSpec : ChangeSpec := { name := "alarmApart", fn := fun _ => fun
  | [d1, d2, d3, d4] => { results := [.lit (.bool true)], args := [d1, d2, d3, d4] }
  | _ => none }
def alarmApartRow : OpenClaim := { program := "ytcplimefklnknaa", sum := "6f3f792714c3f6f2621ab2fbd75a6ebd8c11d9b4769de9567e135ccf1a94bf3b", func := "pursebearer/pursebearerlaw03.AlarmApart", spec := "alarmApart", inPlace := ["slices.overlaps[pursebearer/alarm.entry]"], unfollowed := true, recurses := true, apart := false }
def AlarmApartSaid : Prop := alarmApartRow.holds Try.pinned (OpenSpec.ofChange alarmApartSpec)

/-- ITS FALSE NEIGHBOUR: 'it returns false'. Refute it at one input. -/
def alarmApartWrong : ChangeSpec := { name := "alarmApart", fn := fun _ => fun
  | [d1, d2, d3, d4] => { results := [.lit (.bool false)], args := [d1, d2, d3, d4] }
  | _ => none }
def AlarmApartWrongFalsely : Prop := alarmApartRow.holds Try.pinned (OpenSpec.ofChange alarmApartWrong)

/- THE SECOND FORM. 'bulk': how many values and letters a reading holds, each counted each time it is reached (what is shared counts as often as it is met; a slice's spare places count too). A statement '..UptoSaid' is the law's where the arguments, and the package variables that the reading takes, are together of bulk at most 1048576: NARROWER than '..Said'. Prove '..Said' where nothing that the law and all that it calls make is longer than what came in: it says more and counts as full. Else prove '..UptoSaid'. A law counts once. -/
mutual
def uptoBulk {H : Type} : DataW H → Nat
  | .lit (.string bytes) => bytes.length + 1
  | .lit _ => 1
  | .nil => 1
  | .ptr d => uptoBulk d + 1
  | .slice elems spare => uptoBulkAll elems + uptoBulkAll spare + 1
  | .agg parts => uptoBulkAll parts + 1
  | .iface _ d => uptoBulk d + 1
  | .map entries => uptoBulkEntries entries + 1
  | .held _ => 1
def uptoBulkAll {H : Type} : List (DataW H) → Nat
  | [] => 0
  | d :: r => uptoBulk d + uptoBulkAll r
def uptoBulkEntries {H : Type} : List (Lit × DataW H) → Nat
  | [] => 0
  | x :: r => uptoBulkEntry x + uptoBulkEntries r
def uptoBulkEntry {H : Type} : Lit × DataW H → Nat
  | (.string bytes, d) => bytes.length + uptoBulk d + 1
  | (_, d) => uptoBulk d + 1
 end
def uptoSmall : (H : Type) → List (DataW H) → Bool := fun _ ds => decide (uptoBulkAll ds ≤ 1048576)
def OpenSpec.upto (s : _root_.Go.ChangeSpec) : _root_.Go.OpenSpec := { _root_.Go.OpenSpec.ofChange s with cond := some uptoSmall }

/-- 'pursebearerlaw03.AlarmParts', WHERE WHAT IT READS IS OF BULK AT MOST 1048576: true; the input reads as it did. -/
def alarmPartsUptoRow : OpenClaim := { program := "ytcplimefklnknaa", sum := "6f3f792714c3f6f2621ab2fbd75a6ebd8c11d9b4769de9567e135ccf1a94bf3b", func := "pursebearer/pursebearerlaw03.AlarmParts", spec := "alarmParts", inPlace := ["slices.overlaps[pursebearer/alarm.entry]"], unfollowed := true, recurses := true, apart := false, narrowed := true }
def AlarmPartsUptoSaid : Prop := alarmPartsUptoRow.holds Try.pinned (OpenSpec.upto alarmPartsSpec)

/-- 'pursebearerlaw03.AlarmAnew', WHERE WHAT IT READS IS OF BULK AT MOST 1048576: true; the input reads as it did. -/
def alarmAnewUptoRow : OpenClaim := { program := "ytcplimefklnknaa", sum := "6f3f792714c3f6f2621ab2fbd75a6ebd8c11d9b4769de9567e135ccf1a94bf3b", func := "pursebearer/pursebearerlaw03.AlarmAnew", spec := "alarmAnew", inPlace := ["slices.overlaps[pursebearer/alarm.entry]"], unfollowed := true, recurses := true, apart := false, narrowed := true }
def AlarmAnewUptoSaid : Prop := alarmAnewUptoRow.holds Try.pinned (OpenSpec.upto alarmAnewSpec)

/-- 'pursebearerlaw03.AlarmSorted', WHERE WHAT IT READS IS OF BULK AT MOST 1048576: true; the input reads as it did. -/
def alarmSortedUptoRow : OpenClaim := { program := "ytcplimefklnknaa", sum := "6f3f792714c3f6f2621ab2fbd75a6ebd8c11d9b4769de9567e135ccf1a94bf3b", func := "pursebearer/pursebearerlaw03.AlarmSorted", spec := "alarmSorted", inPlace := ["slices.overlaps[pursebearer/alarm.entry]"], unfollowed := true, recurses := true, apart := false, narrowed := true }
def AlarmSortedUptoSaid : Prop := alarmSortedUptoRow.holds Try.pinned (OpenSpec.upto alarmSortedSpec)

/-- 'pursebearerlaw03.AlarmApart', WHERE WHAT IT READS IS OF BULK AT MOST 1048576: true; the input reads as it did. -/
def alarmApartUptoRow : OpenClaim := { program := "ytcplimefklnknaa", sum := "6f3f792714c3f6f2621ab2fbd75a6ebd8c11d9b4769de9567e135ccf1a94bf3b", func := "pursebearer/pursebearerlaw03.AlarmApart", spec := "alarmApart", inPlace := ["slices.overlaps[pursebearer/alarm.entry]"], unfollowed := true, recurses := true, apart := false, narrowed := true }
def AlarmApartUptoSaid : Prop := alarmApartUptoRow.holds Try.pinned (OpenSpec.upto alarmApartSpec)

end Rows
end Go.Proofs.Ytcplimefklnknaa
