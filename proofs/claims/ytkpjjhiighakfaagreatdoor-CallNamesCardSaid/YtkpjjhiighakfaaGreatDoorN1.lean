/- N1: picked out of XDig, XC1. -/
import Derived.Test.YtkpjjhiighakfaaGreatDoorB29
import Derived.Test.YtkpjjhiighakfaaGreatDoorPlain
import Derived.Shelf.Strconv.Itoa3
import Derived.Lib.Strings
import Derived.Laws.IdiomStrings
import Derived.BigQuiet
namespace Go.Proofs.YtkpjjhiighakfaaGreatDoor
open Go.RowKit
open Go.RowKit Go.Lib
attribute [local go_sem ↓] Go.wp_at_zero Go.wp_at_succ

theorem bytes_ext {s t : ByteArray} (h : s.data.toList = t.data.toList) : s = t := by
  obtain ⟨⟨a⟩⟩ := s
  obtain ⟨⟨b⟩⟩ := t
  have h' : a = b := h
  rw [h']

def digit (r : Nat) : ByteArray := ⟨#[UInt8.ofNat (48 + r)]⟩

theorem dec_facts : ∀ r : Nat, r ≤ 9 → (Lib.decDigits r) = [UInt8.ofNat (48 + r)] := by
  intro r h2
  have : r = 0 ∨ r = 1 ∨ r = 2 ∨ r = 3 ∨ r = 4 ∨ r = 5 ∨ r = 6 ∨ r = 7 ∨ r = 8 ∨ r = 9 := by omega
  rcases this with rfl | rfl | rfl | rfl | rfl | rfl | rfl | rfl | rfl | rfl <;> (unfold Lib.decDigits; rfl)

theorem itoa_any (r : Nat) (h1 : r ≤ 9) (w : World) :
    Calls Tryz.prog 22 #[.int .i64 r] w fun e w' => e = .returned (.string (digit r)) ∧ w' = w := by
  have h : Calls Tryz.prog 22 #[.int .i64 r] w fun e w' => e = .returned (.string ⟨(Lib.decDigits r).toArray⟩) ∧ w' = w := Any.strconv_Itoa_small Tryz.lays171 r (by omega) w
  rw [dec_facts r h1] at h
  exact h

theorem data_append (a b : ByteArray) : (a ++ b).data.toList = a.data.toList ++ b.data.toList := by simp

def cxCells (c : Cx) : List Value := [.int .i64 c.req, .string c.call, .int .i64 c.try_, .bool c.idem, .bool c.shadow, .int .i64 c.dl, .int .i64 c.purse, .int .i64 c.ver, .int .i64 c.prio]

def cxV (c : Cx) : Value := .agg (cxCells c).toArray

/-- Two new boxes, that hold one call both. -/
theorem cx_boxes (w : World) (c : Cx) : ∃ W, (w.alloc (.cells (cxCells c).toArray 25)).alloc (.cells (cxCells c).toArray 25) = W ∧ Below w.heap.size w W ∧ W.heap[w.heap.size + 1]? = some (.cells (cxCells c).toArray 25 (0, 0)) := by
  refine ⟨_, rfl, ((Below.refl _ _).alloc (Nat.le_refl _) _).alloc (by simp) _, ?_⟩
  have hbx := heap_alloc_new (w.alloc (.cells (cxCells c).toArray 25)) (.cells (cxCells c).toArray 25)
  rw [show (w.alloc (.cells (cxCells c).toArray 25)).heap.size = w.heap.size + 1 by simp] at hbx
  exact hbx

/-- An attempt's name, where the attempt's number is one digit. -/
def Cx.span (c : Cx) : ByteArray := if 0 < c.try_ then c.call ++ ⟨#[58]⟩ ++ digit c.try_.toNat else c.call

set_option maxRecDepth 8000 in
set_option maxHeartbeats 1000000 in
theorem span_any (c : Cx) (hs : c.call.size ≤ 1000000) (ht : c.try_ ≤ 9) (w : World) :
    Calls Tryz.prog 8 #[cxV c] w fun e w' => e = .returned (.string c.span) ∧ Below w.heap.size w w' := by
  have HS : Hid (c.span = if 0 < c.try_ then c.call ++ ⟨#[58]⟩ ++ digit c.try_.toNat else c.call) := rfl
  obtain ⟨y, hy⟩ : ∃ y, y = c.span := ⟨_, rfl⟩
  rw [← hy] at HS ⊢
  clear hy
  obtain ⟨q, s, t, a, b, d, u, v, z⟩ := c
  dsimp only at hs ht HS
  unfold cxV cxCells
  dsimp only
  obtain ⟨W, hW⟩ : ∃ W, w.alloc (.cells #[.int .i64 q, .string s, .int .i64 t, .bool a, .bool b, .int .i64 d, .int .i64 u, .int .i64 v, .int .i64 z] 25) = W := ⟨_, rfl⟩
  have hbx := heap_alloc_new w (.cells #[.int .i64 q, .string s, .int .i64 t, .bool a, .bool b, .int .i64 d, .int .i64 u, .int .i64 v, .int .i64 z] 25)
  have hb : Below w.heap.size w W := by rw [← hW]; exact (Below.refl _ _).alloc (Nat.le_refl _) _
  rw [hW] at hbx
  have HB := Lib.hid hb
  have r0 := block_cell hbx 0 _ rfl
  have r1 := block_cell hbx 1 _ rfl
  have r2 := block_cell hbx 2 _ rfl
  have r3 := block_cell hbx 3 _ rfl
  have r4 := block_cell hbx 4 _ rfl
  have r5 := block_cell hbx 5 _ rfl
  have r6 := block_cell hbx 6 _ rfl
  have r7 := block_cell hbx 7 _ rfl
  have r8 := block_cell hbx 8 _ rfl
  clear hbx hb
  by_cases h0 : 0 < t
  · obtain ⟨m, rfl⟩ : ∃ m : Nat, t = (m : Int) := ⟨t.toNat, by omega⟩
    have HS2 : Hid (y = s ++ ⟨#[58]⟩ ++ digit m) := by rw [HS.out, if_pos h0]; exact rfl
    have t1 : decide ((0 : Int) < (m : Int)) = true := decide_eq_true h0
    have h0' : 0 < m := by omega
    have HI := Lib.hid (fun k => itoa_any m (by omega) (W.drewN k))
    have h1 : (s ++ ⟨#[58]⟩).size ≤ 1000001 := by rw [ByteArray.size_append]; show _ + 1 ≤ _; omega
    have h2 : (⟨#[58]⟩ : ByteArray).size = 1 := rfl
    have h3 : (digit m).size = 1 := rfl
    clear HS h0
    go_enter Tryz.func8, Tryz.ntmps8
    go_wp2_with fail
    go_quiet (first | (go_at_call 22; with_reducible exact Calls.quiet_of_same (HI.out _)))
    go_wp2_with fail
    go_ret
    rw [HS2.out]
    exact ⟨rfl, below_drewN HB.out⟩
  · have HS2 : Hid (y = s) := by rw [HS.out, if_neg h0]; exact rfl
    have t1 : decide (0 < t) = false := decide_eq_false h0
    clear HS
    go_enter Tryz.func8, Tryz.ntmps8
    go_wp2_with fail
    go_ret
    rw [HS2.out]
    exact ⟨rfl, HB.out⟩

end Go.Proofs.YtkpjjhiighakfaaGreatDoor
