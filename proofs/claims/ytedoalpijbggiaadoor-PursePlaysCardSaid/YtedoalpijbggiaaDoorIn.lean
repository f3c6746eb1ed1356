/- Slices of integers. -/
import Derived.Test.YtedoalpijbggiaaDoorRow
namespace Go.Proofs.YtedoalpijbggiaaDoor
open Go.RowKit
attribute [local go_sem ↓] Go.wp_at_zero Go.wp_at_succ

theorem infoInt : (Tryd.prog.info? 3).map (fun i => (i.zero, i.size, i.bytes)) = some (some (.int .i64 0), 1, 8) := by kernel_rfl

def intCells (l : List Int) : List Value := l.map (Value.int .i64)
theorem intCells_length (l : List Int) : (intCells l).length = l.length := by simp [intCells]
theorem intCells_get (l : List Int) (k : Nat) : (intCells l)[k]? = l[k]?.map (Value.int .i64) := by simp [intCells]

/-- A slice of integers. -/
def IntsAt (w : World) (v : Value) (l : List Int) (sb : Option Nat) : Prop := RowAt w 3 1 v l.length (intCells l) sb

theorem IntsAt.cell {w : World} {g off cap : Nat} {l : List Int} {sb : Option Nat} (h : IntsAt w (.slice (some ⟨g, off, none⟩) l.length cap) l sb) (k : Nat) (hk : k < l.length) : w.cell? ⟨g, off + k, none⟩ = some (.int .i64 l[k]) := by
  rw [RowAt.cell h k (by omega), intCells_get, List.getElem?_eq_getElem hk]; rfl

theorem IntsAt.keep {w w' : World} {v : Value} {l : List Int} {sb : Option Nat} (h : IntsAt w v l sb) (hb : Below w.heap.size w w') : IntsAt w' v l sb := RowAt.keep h hb

theorem intCells_one (l : List Int) : ∀ u ∈ intCells l, u.oneCell' = true := by
  intro u hu
  simp only [intCells, List.mem_map] at hu
  obtain ⟨x, _, rfl⟩ := hu
  rfl

/-- append of a list of numbers to another one. -/
theorem ints_append (w : World) {v u : Value} {l l' : List Int} {sb sc : Option Nat} (h : IntsAt w v l sb) (k : IntsAt w u l' sc) (hb : l.length + l'.length ≤ 17592186044416) :
    ∃ v' sb' w', (Builtin.append_ #[22, 22] 22 #[v, u]).run Tryd.prog w = .ok v' w' ∧ IntsAt w' v' (l ++ l') sb' ∧ w.grownBy w' sb ∧ (sb' = sb ∨ sb' = some w.heap.size) := by
  obtain ⟨la, lc, sb', w', h1, h2, h3, h4⟩ := row_append_row (P := Tryd.prog) w 22 22 3 (.int .i64 0) 1 8 Tryd.underlying22 infoInt rfl h k (intCells_one l') (by omega) (by omega)
  refine ⟨_, sb', w', h1, ?_, h3, h4⟩
  unfold IntsAt
  rw [List.length_append, show intCells (l ++ l') = intCells l ++ intCells l' by simp [intCells]]
  exact h2

end Go.Proofs.YtedoalpijbggiaaDoor
