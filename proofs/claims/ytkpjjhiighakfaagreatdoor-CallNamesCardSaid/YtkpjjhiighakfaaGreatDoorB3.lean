/- A call in memory; more, beside. -/
import Derived.Test.YtkpjjhiighakfaaGreatDoorB2
import Derived.Test.YtkpjjhiighakfaaGreatDoorSplit
import Derived.Deep.DeepCutAuto
namespace Go.Proofs.YtkpjjhiighakfaaGreatDoor
open Go.RowKit
attribute [local go_sem ↓] Go.wp_at_zero Go.wp_at_succ

/-- What a call goes with. -/
structure Cx where
  req : Int
  call : ByteArray
  try_ : Int
  idem : Bool
  shadow : Bool
  dl : Int
  purse : Int
  ver : Int
  prio : Int

structure Pol where
  tmo : Int
  tries : Int
  back : Int
  hedge : Int
  per : Int
  of : Int
  burst : Int

/-- A call. -/
structure CS where
  c : Cx
  p : Pol
  open_ : List (Int × Int × Cx)
  made : Int
  left : Int
  frm : Int
  due : Bool
  dueAt : Int
  last : Int
  over : Bool
  end_ : Int

def cxVal (c : Cx) : Value := .agg #[.int .i64 c.req, .string c.call, .int .i64 c.try_, .bool c.idem, .bool c.shadow, .int .i64 c.dl, .int .i64 c.purse, .int .i64 c.ver, .int .i64 c.prio]
def attVal (x : Int × Cx) : Value := .agg #[.int .i64 x.1, .int .i64 x.2.req, .string x.2.call, .int .i64 x.2.try_, .bool x.2.idem, .bool x.2.shadow, .int .i64 x.2.dl, .int .i64 x.2.purse, .int .i64 x.2.ver, .int .i64 x.2.prio]
def callCells (S : CS) (bb mb : Nat) : Array Value :=
  #[.int .i64 S.c.req, .string S.c.call, .int .i64 S.c.try_, .bool S.c.idem, .bool S.c.shadow, .int .i64 S.c.dl, .int .i64 S.c.purse, .int .i64 S.c.ver, .int .i64 S.c.prio,
    .int .i64 S.p.tmo, .int .i64 S.p.tries, .int .i64 S.p.back, .int .i64 S.p.hedge, .int .i64 S.p.per, .int .i64 S.p.of, .int .i64 S.p.burst,
    .pointer (some ⟨bb, 0, none⟩), .map (some mb), .int .i64 S.made, .int .i64 S.left, .int .i64 S.frm, .bool S.due, .int .i64 S.dueAt, .int .i64 S.last, .bool S.over, .int .i64 S.end_]
def openM (S : CS) : List (Int × Value) := S.open_.map fun x => (x.1, attVal x.2)

/-- A call in the blocks cb, mb; its bucket bb. -/
structure CallW (w : World) (cb mb bb : Nat) (S : CS) : Prop where
  cells : w.heap[cb]? = some (.cells (callCells S bb mb) 56 (0, 0))
  map : MapAt mapI w mb (openM S)

/-- Bounds. -/
structure CS.Ok (S : CS) : Prop where
  tmo : 0 ≤ S.p.tmo ∧ S.p.tmo ≤ 1000000
  tries : S.p.tries ≤ 8
  back : 0 ≤ S.p.back ∧ S.p.back ≤ 1000
  hedge : 0 ≤ S.p.hedge ∧ S.p.hedge ≤ 1000000
  dl : 0 ≤ S.c.dl ∧ S.c.dl ≤ 1000000
  made : 0 ≤ S.made ∧ S.made ≤ 8
  left : 0 ≤ S.left ∧ S.left ≤ 1000
  frm : -1000000000 ≤ S.frm ∧ S.frm ≤ 1000000000
  dueAt : S.due = true → -1000000000 ≤ S.dueAt ∧ S.dueAt ≤ 1000000000
  keys : (S.open_.map (·.1)).Pairwise (· < ·)
  keyb : ∀ x ∈ S.open_, 1 ≤ x.1 ∧ x.1 ≤ S.made
  ats : ∀ x ∈ S.open_, -1000000000 ≤ x.2.1 ∧ x.2.1 ≤ 1000000000

theorem CallW.lt {w : World} {cb mb bb : Nat} {S : CS} (h : CallW w cb mb bb S) : cb < w.heap.size ∧ mb < w.heap.size := ⟨(Array.getElem?_eq_some_iff.1 h.cells).1, h.map.lt⟩
theorem CallW.ne {w : World} {cb mb bb : Nat} {S : CS} (h : CallW w cb mb bb S) : cb ≠ mb := fun e => by
  obtain ⟨_, es, c, hmb, _⟩ := h.map; have := h.cells; rw [e, hmb] at this; cases this
theorem CallW.keep {w w' : World} {cb mb bb : Nat} {S : CS} (h : CallW w cb mb bb S) (h1 : w'.heap[cb]? = w.heap[cb]?) (h2 : w'.heap[mb]? = w.heap[mb]?) : CallW w' cb mb bb S := ⟨h1.trans h.cells, h.map.keep h2⟩
theorem CallW.below {w w' : World} {cb mb bb : Nat} {S : CS} (h : CallW w cb mb bb S) (hb : Below w.heap.size w w') : CallW w' cb mb bb S := h.keep (hb.block _ h.lt.1) (hb.block _ h.lt.2)
theorem CallW.cell {w : World} {cb mb bb : Nat} {S : CS} (h : CallW w cb mb bb S) (o : Nat) (v : Value) (hv : (callCells S bb mb)[o]? = some v) : w.cell? ⟨cb, o, none⟩ = some v := block_cell h.cells o v hv
theorem CallW.free {w : World} {cb mb bb : Nat} {S : CS} (h : CallW w cb mb bb S) (o : Nat) : w.frozen? ⟨cb, o, none⟩ = false := block_free h.cells o

/-- Its own blocks. -/
def CFoot (cb mb bb : Nat) (k : Nat) : Prop := k = cb ∨ k = mb ∨ k = bb

def CS.more (S : CS) : Bool := decide (S.made < S.p.tries) && decide (1 ≤ S.left)
def CS.hasBeside (S : CS) : Bool := decide (0 < S.p.hedge) && !S.open_.isEmpty && S.more

theorem more_any {w : World} {cb mb bb : Nat} {S : CS} (h : CallW w cb mb bb S) :
    Calls Tryz.prog 63 #[.pointer (some ⟨cb, 0, none⟩)] w fun e w' => e = .returned (.bool S.more) ∧ Below w.heap.size w w' := by
  have c1 := h.cell 18 (.int .i64 S.made) rfl
  have c2 := h.cell 10 (.int .i64 S.p.tries) rfl
  have c3 := h.cell 19 (.int .i64 S.left) rfl
  clear h
  by_cases h1 : S.made < S.p.tries
  · have t1 : decide (S.made < S.p.tries) = true := decide_eq_true h1
    have HM : Hid (S.more = decide (1 ≤ S.left)) := by unfold CS.more Hid; rw [t1, Bool.true_and]
    clear h1
    go_enter Tryz.func63, Tryz.ntmps63
    go_wp2_with fail
    go_quiet (fail)
    go_wp2
    go_ret
    exact ⟨ret_bool HM.out.symm, below_drewN (Below.refl _ _)⟩
  · have t1 : decide (S.made < S.p.tries) = false := decide_eq_false h1
    have HM : Hid (S.more = false) := by unfold CS.more Hid; rw [t1, Bool.false_and]
    clear h1
    go_enter Tryz.func63, Tryz.ntmps63
    go_wp2_with fail
    go_quiet (fail)
    go_wp2
    go_ret
    exact ⟨ret_bool HM.out.symm, below_drewN (Below.refl _ _)⟩

end Go.Proofs.YtkpjjhiighakfaaGreatDoor
