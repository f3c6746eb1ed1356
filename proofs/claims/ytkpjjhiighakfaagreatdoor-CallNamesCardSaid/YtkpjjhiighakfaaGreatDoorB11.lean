/- Over, Tries, Purse. -/
import Derived.Test.YtkpjjhiighakfaaGreatDoorB9
namespace Go.Proofs.YtkpjjhiighakfaaGreatDoor
open Go.RowKit
attribute [local go_sem ↓] Go.wp_at_zero Go.wp_at_succ

theorem cpurse_any {w : World} {cb mb bb : Nat} {S : CS} (h : CallW w cb mb bb S) :
    Calls Tryz.prog 26 #[.pointer (some ⟨cb, 0, none⟩)] w fun e w' => e = .returned (.int .i64 S.left) ∧ w' = w := by
  have c19 := h.cell 19 (.int .i64 S.left) rfl
  clear h
  go_enter Tryz.func26, Tryz.ntmps26
  go_wp2
  go_ret
  exact ⟨rfl, rfl⟩

/-- A call that is new. -/
def newS (c : Cx) (p : Pol) : CS := ⟨c, p, [], 0, c.purse, 0, false, 0, 0, false, 0⟩

set_option maxRecDepth 8000 in
theorem cnew_any (c : Cx) (p : Pol) (bb : Nat) (w : World) :
    Calls Tryz.prog 15 #[.agg #[.int .i64 c.req, .string c.call, .int .i64 c.try_, .bool c.idem, .bool c.shadow, .int .i64 c.dl, .int .i64 c.purse, .int .i64 c.ver, .int .i64 c.prio], .agg #[.int .i64 p.tmo, .int .i64 p.tries, .int .i64 p.back, .int .i64 p.hedge, .int .i64 p.per, .int .i64 p.of, .int .i64 p.burst], .pointer (some ⟨bb, 0, none⟩)] w fun e w' =>
      ∃ cb mb, e = .returned (.pointer (some ⟨cb, 0, none⟩)) ∧ CallW w' cb mb bb (newS c p) ∧ w.heap.size ≤ cb ∧ w.heap.size ≤ mb ∧ Below w.heap.size w w' := by
  have hmm := @run_makeMap Tryz.prog
  go_enter Tryz.func15, Tryz.ntmps15
  go_wp2_with fail
  go_ret
  have h4 := fun (W : World) => heap_alloc_new ((W.alloc (.map #[] 0))) (.cells (callCells (newS c p) bb W.heap.size) 56)
  have h5 := fun (W : World) => (mapAt_new mapI W).keep (w' := (W.alloc (.map #[] 0)).alloc (.cells (callCells (newS c p) bb W.heap.size) 56)) (Below.heap_alloc _ _ _ (by simp))
  refine ⟨w.heap.size + 1 + 1 + 1, w.heap.size + 1 + 1, rfl, ⟨?_, ?_⟩, by omega, by omega, ((((Below.refl _ _).alloc (Nat.le_refl _) _).alloc (by simp) _).alloc (by simp; omega) _).alloc (by simp; omega) _⟩
  · have := h4 ((w.alloc (.cells #[.int .i64 c.req, .string c.call, .int .i64 c.try_, .bool c.idem, .bool c.shadow, .int .i64 c.dl, .int .i64 c.purse, .int .i64 c.ver, .int .i64 c.prio] 25)).alloc (.cells #[.int .i64 p.tmo, .int .i64 p.tries, .int .i64 p.back, .int .i64 p.hedge, .int .i64 p.per, .int .i64 p.of, .int .i64 p.burst] 29))
    simpa [callCells, newS, openM] using this
  · have := h5 ((w.alloc (.cells #[.int .i64 c.req, .string c.call, .int .i64 c.try_, .bool c.idem, .bool c.shadow, .int .i64 c.dl, .int .i64 c.purse, .int .i64 c.ver, .int .i64 c.prio] 25)).alloc (.cells #[.int .i64 p.tmo, .int .i64 p.tries, .int .i64 p.back, .int .i64 p.hedge, .int .i64 p.per, .int .i64 p.of, .int .i64 p.burst] 29))
    simpa [callCells, newS, openM] using this

end Go.Proofs.YtkpjjhiighakfaaGreatDoor
