/- Structs as wholes: loads and stores of a block. -/
import Derived.Test.YtchjlkfkfcmhlaaDoorBase
import Derived.Great.BuildSlice
import Derived.Great.Walk
import Derived.Laws.CopyOwn
namespace Go.Proofs.YtchjlkfkfcmhlaaDoor
open Go.RowKit

theorem exec_load_row {P : Program} {o : Oper} {a : Act} {w : World} (ty : TypeId) (x : Operand) (ho : o.op = .load ty x)
    (g : Nat) (hx : a.eval x = .pointer (some ⟨g, 0, none⟩)) (t : TypeId) (cs : Array Value) (fr : Nat × Nat) (d : TypeDesc) (hg : w.heap[g]? = some (.cells cs t fr))
    (hu : P.underlying ty = some d) (hd : (match d with | .struct _ | .array _ _ => true | _ => false) = true) (hi : (P.info? ty).map (·.size) = some cs.size) :
    (execOp a.eval o).run P w = .ok (.value (.agg cs)) w := by
  unfold execOp
  simp only [ho, hx, Instr.loadAt, Instr.sureAddr, Sem.run_bind, Sem.run_pure, Result.andThen_ok, run_loadVar_row w g t ty cs fr d hg hu hd hi]

end Go.Proofs.YtchjlkfkfcmhlaaDoor
