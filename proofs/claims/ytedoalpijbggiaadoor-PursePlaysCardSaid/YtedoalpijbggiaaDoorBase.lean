/- Small lemmas on endings, worlds, frames. -/
import Derived.Test.YtedoalpijbggiaaDoorProg
import Derived.WalkKit
import Derived.LoopTactic
import Derived.Outline
import Derived.Lib.Hide
namespace Go.Proofs.YtedoalpijbggiaaDoor
open Go.RowKit

theorem ret_int {k : IntKind} {a b : Int} (h : a = b) : Ending.returned (.int k a) = .returned (.int k b) := by rw [h]

theorem ret_bool {a b : Bool} (h : a = b) : Ending.returned (.bool a) = .returned (.bool b) := by rw [h]

/-- A cell that is known stays what it is while nothing old is written. -/
theorem bkeep {w w' : World} {a : Addr} {v : Value} (hb : Below w.heap.size w w') (h : w.cell? a = some v) : w'.cell? a = some v :=
  (hb.cell (World.block_lt_of_cell? w a h)).trans h

/-- A cell that is known stays what it is behind a new block. -/
theorem akeep {w : World} {a : Addr} {v : Value} (h : w.cell? a = some v) (o : Obj) : (w.alloc o).cell? a = some v :=
  bkeep ((Below.refl _ _).alloc (Nat.le_refl _) o) h

theorem btrans {w w' w'' : World} (h : Below w.heap.size w w') (k : Below w'.heap.size w' w'') : Below w.heap.size w w'' :=
  h.trans (k.mono h.size)

theorem bdrew {w w' : World} (h : Below w.drew.heap.size w.drew w') : Below w.heap.size w w' := ⟨h.os, h.tape, h.output, h.size, h.block⟩

/-- Of the old blocks at most those of F were written. -/
structure Fr (F : Nat → Prop) (w w' : World) : Prop where
  os : w'.os = w.os
  tape : w'.tape = w.tape
  output : w'.output = w.output
  size : w.heap.size ≤ w'.heap.size
  block : ∀ k, k < w.heap.size → ¬ F k → w'.heap[k]? = w.heap[k]?

theorem Fr.refl (F : Nat → Prop) (w : World) : Fr F w w := ⟨rfl, rfl, rfl, Nat.le_refl _, fun _ _ _ => rfl⟩
theorem Fr.ofBelow {F : Nat → Prop} {w w' : World} (h : Below w.heap.size w w') : Fr F w w' := ⟨h.os, h.tape, h.output, h.size, fun k hk _ => h.block k hk⟩
theorem Fr.toBelow {F : Nat → Prop} {w w' : World} (h : Fr F w w') (hF : ∀ k, k < w.heap.size → ¬ F k) : Below w.heap.size w w' := ⟨h.os, h.tape, h.output, h.size, fun k hk => h.block k hk (hF k hk)⟩
theorem Fr.ofGrown {F : Nat → Prop} {w w' : World} {row : Option Nat} (h : w.grownBy w' row) (hF : ∀ k, row = some k → F k) : Fr F w w' :=
  ⟨h.os, h.tape, h.output, h.size, fun k hk hn => h.block k hk (fun e => hn (hF k e.symm))⟩
theorem Fr.trans {F F' : Nat → Prop} {w w' w'' : World} (h : Fr F w w') (k : Fr F' w' w'') (hF : ∀ b, F' b → F b ∨ w.heap.size ≤ b) : Fr F w w'' :=
  ⟨k.os.trans h.os, k.tape.trans h.tape, k.output.trans h.output, Nat.le_trans h.size k.size, fun b hb hn =>
    (k.block b (Nat.lt_of_lt_of_le hb h.size) (fun e => (hF b e).elim hn (fun g => by omega))).trans (h.block b hb hn)⟩
theorem Fr.mono {F F' : Nat → Prop} {w w' : World} (h : Fr F w w') (hF : ∀ b, F b → F' b) : Fr F' w w' := ⟨h.os, h.tape, h.output, h.size, fun b hb hn => h.block b hb (fun e => hn (hF b e))⟩
theorem Fr.cell {F : Nat → Prop} {w w' : World} (h : Fr F w w') {a : Addr} {v : Value} (ha : w.cell? a = some v) (hF : ¬ F a.block) : w'.cell? a = some v :=
  (World.cell?_of_block (h.block _ (World.block_lt_of_cell? w a ha) hF)).trans ha
theorem Fr.setCell (F : Nat → Prop) (w : World) (a : Addr) (v : Value) (hF : F a.block) : Fr F w (w.setCell a v) :=
  ⟨rfl, rfl, rfl, by simp [World.setCell], fun k _ hn => Below.heap_setCell _ _ _ _ (fun e => hn (by rw [e]; exact hF))⟩
theorem Fr.drew (F : Nat → Prop) (w : World) : Fr F w w.drew := ⟨rfl, rfl, rfl, Nat.le_refl _, fun _ _ _ => rfl⟩

/-- The block behind a store into one of its cells. -/
theorem setCell_block (w : World) (b o : Nat) (cur : Array Value) (T : TypeId) (fr : Nat × Nat) (v : Value) (h : w.heap[b]? = some (.cells cur T fr)) :
    (w.setCell ⟨b, o, none⟩ v).heap[b]? = some (.cells (cur.setIfInBounds o v) T fr) := by
  rw [setCell_eq_setRow w b o cur T fr v h]
  exact setRow_heap w b cur _ T fr h

theorem block_cell {w : World} {b : Nat} {cur : Array Value} {T : TypeId} {fr : Nat × Nat} (h : w.heap[b]? = some (.cells cur T fr)) (o : Nat) (v : Value) (hv : cur[o]? = some v) : w.cell? ⟨b, o, none⟩ = some v := by
  rw [cell_of_row w b o cur T fr h, hv]
theorem block_free {w : World} {b : Nat} {cur : Array Value} {T : TypeId} (h : w.heap[b]? = some (.cells cur T (0, 0))) (o : Nat) : w.frozen? ⟨b, o, none⟩ = false := by simp [World.frozen?, h]

end Go.Proofs.YtedoalpijbggiaaDoor
