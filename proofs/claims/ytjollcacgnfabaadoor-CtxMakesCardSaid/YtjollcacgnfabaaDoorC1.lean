/- What a call carries; Up, Depth, Copy, Tryd. -/
import Derived.Test.YtjollcacgnfabaaDoorDeal
import Derived.Shelf.Strings.LastIndex
import Derived.Shelf.Strings.Count
import Derived.Lib.Strings
import Derived.Deep.QuietTactic
import Derived.BigQuiet
namespace Go.Proofs.YtjollcacgnfabaaDoor
open Go.RowKit
attribute [local go_sem ↓] Go.wp_at_zero Go.wp_at_succ

structure Cx where
  req : Int
  call : ByteArray
  try_ : Int
  idem : Bool
  shadow : Bool
  dl : Int
  purse : Int
  ver : Int
  prio : Int

def cxCells (c : Cx) : List Value := [.int .i64 c.req, .string c.call, .int .i64 c.try_, .bool c.idem, .bool c.shadow, .int .i64 c.dl, .int .i64 c.purse, .int .i64 c.ver, .int .i64 c.prio]
def cxV (c : Cx) : Value := .agg (cxCells c).toArray

/-- The name of the attempt in which something was made. -/
def upOf (s : ByteArray) : ByteArray := s.extract 0 (max (Lib.lastIndexByte s 47) 0).toNat

theorem last_bd (s : ByteArray) : -1 ≤ Lib.lastIndexByte s 47 ∧ Lib.lastIndexByte s 47 < s.size := by
  rcases Lib.lastIndexByte_spec s 47 with h | ⟨i, h1, h2, _⟩ <;> omega

theorem up_any (s : ByteArray) (hs : s.size ≤ 1000000) (w : World) :
    Calls Tryd.prog 17 #[.string s] w fun e w' => e = .returned (.string (upOf s)) ∧ w' = w := by
  have HC : Hid (∀ w, Calls Tryd.prog 44 #[.string s, .int .u8 47] w fun e w' => e = .returned (.int .i64 (Lib.lastIndexByte s 47)) ∧ w' = w) := fun w => Any.strings_LastIndexByte Tryd.lays149 s 47 (by omega) w
  obtain ⟨b0, b1⟩ := last_bd s
  have HU : Hid (upOf s = s.extract 0 (max (Lib.lastIndexByte s 47) 0).toNat) := rfl
  obtain ⟨x, hx⟩ : ∃ x, x = Lib.lastIndexByte s 47 := ⟨_, rfl⟩
  rw [← hx] at HC HU b0 b1
  clear hx
  by_cases h0 : x < 0
  · have hm : max x 0 = 0 := by omega
    have HU2 : Hid (upOf s = ByteArray.empty) := by rw [HU.out, hm]; exact Lib.extract_eq s 0 0
    go_enter Tryd.func17, Tryd.ntmps17
    go_wp2_with fail
    refine (HC.out _).mono ?_
    rintro e w' ⟨rfl, rfl⟩
    go_wp2_with fail
    go_ret
    rw [HU2.out]
    exact ⟨rfl, rfl⟩
  · have hm : max x 0 = x := by omega
    rw [hm] at HU
    have i0 : (0 : Int) ≤ x := by omega
    have i1 : x ≤ (s.size : Int) := by omega
    go_enter Tryd.func17, Tryd.ntmps17
    go_wp2_with fail
    refine (HC.out _).mono ?_
    rintro e w' ⟨rfl, rfl⟩
    go_wp2_with fail
    go_ret
    rw [HU.out]
    exact ⟨rfl, rfl⟩

def depthOf (s : ByteArray) : Int := (Lib.countByte s.data.toList 47 : Nat)

theorem depth_any (s : ByteArray) (w : World) :
    Calls Tryd.prog 19 #[.string s] w fun e w' => e = .returned (.int .i64 (depthOf s)) ∧ w' = w := by
  have HC : Hid (∀ w, Calls Tryd.prog 45 #[.string s, .string ⟨#[47]⟩] w fun e w' => e = .returned (.int .i64 (depthOf s)) ∧ w' = w) := fun w => Any.strings_Count_one Tryd.lays138 s 47 w
  go_enter Tryd.func19, Tryd.ntmps19
  go_wp2_with fail
  refine (HC.out _).mono ?_
  rintro e w' ⟨rfl, rfl⟩
  go_wp2_with fail
  go_ret
  exact ⟨rfl, rfl⟩

def Cx.copy (c : Cx) : Cx := { c with call := c.call ++ ⟨#[126]⟩, shadow := true, purse := 0 }
def Cx.tried (c : Cx) (n p : Int) : Cx := { c with try_ := n, purse := p }

/-- Two new boxes, that hold one call both. -/
theorem cx_boxes (w : World) (c : Cx) : ∃ W, (w.alloc (.cells (cxCells c).toArray 24)).alloc (.cells (cxCells c).toArray 24) = W ∧ Below w.heap.size w W ∧ W.heap[w.heap.size + 1]? = some (.cells (cxCells c).toArray 24 (0, 0)) := by
  refine ⟨_, rfl, ((Below.refl _ _).alloc (Nat.le_refl _) _).alloc (by simp) _, ?_⟩
  have hbx := heap_alloc_new (w.alloc (.cells (cxCells c).toArray 24)) (.cells (cxCells c).toArray 24)
  rw [show (w.alloc (.cells (cxCells c).toArray 24)).heap.size = w.heap.size + 1 by simp] at hbx
  exact hbx

set_option maxRecDepth 8000 in
theorem try_any (c : Cx) (n p : Int) (w : World) :
    Calls Tryd.prog 24 #[cxV c, .int .i64 n, .int .i64 p] w fun e w' => e = .returned (cxV (c.tried n p)) ∧ Below w.heap.size w w' := by
  obtain ⟨q, s, t, a, b, d, u, v, z⟩ := c
  unfold cxV cxCells Cx.tried
  dsimp only
  go_enter Tryd.func24, Tryd.ntmps24
  obtain ⟨W, hW, hb, hbx⟩ := cx_boxes w ⟨q, s, n, a, b, d, p, v, z⟩
  dsimp only [cxCells] at hW hbx
  have HB := Lib.hid hb
  have r0 := block_cell hbx 0 _ rfl
  have r1 := block_cell hbx 1 _ rfl
  have r2 := block_cell hbx 2 _ rfl
  have r3 := block_cell hbx 3 _ rfl
  have r4 := block_cell hbx 4 _ rfl
  have r5 := block_cell hbx 5 _ rfl
  have r6 := block_cell hbx 6 _ rfl
  have r7 := block_cell hbx 7 _ rfl
  have r8 := block_cell hbx 8 _ rfl
  clear hbx hb
  go_wp2_with fail
  exact bodyPost_ret (v := .agg #[.int .i64 q, .string s, .int .i64 n, .bool a, .bool b, .int .i64 d, .int .i64 p, .int .i64 v, .int .i64 z]) (by simp [results, Tryd.results24, go_sem, r0, r1, r2, r3, r4, r5, r6, r7, r8]) rfl ⟨rfl, HB.out⟩

set_option maxRecDepth 8000 in
theorem copy_any (c : Cx) (hs : c.call.size ≤ 1000000) (w : World) :
    Calls Tryd.prog 25 #[cxV c] w fun e w' => e = .returned (cxV c.copy) ∧ Below w.heap.size w w' := by
  obtain ⟨q, s, t, a, b, d, u, v, z⟩ := c
  dsimp only at hs
  unfold cxV cxCells Cx.copy
  dsimp only
  obtain ⟨W, hW, hb, hbx⟩ := cx_boxes w ⟨q, s ++ ⟨#[126]⟩, t, a, true, d, 0, v, z⟩
  dsimp only [cxCells] at hW hbx
  have HB := Lib.hid hb
  have h1 : (⟨#[126]⟩ : ByteArray).size = 1 := rfl
  have r0 := block_cell hbx 0 _ rfl
  have r1 := block_cell hbx 1 _ rfl
  have r2 := block_cell hbx 2 _ rfl
  have r3 := block_cell hbx 3 _ rfl
  have r4 := block_cell hbx 4 _ rfl
  have r5 := block_cell hbx 5 _ rfl
  have r6 := block_cell hbx 6 _ rfl
  have r7 := block_cell hbx 7 _ rfl
  have r8 := block_cell hbx 8 _ rfl
  clear hbx hb
  go_enter Tryd.func25, Tryd.ntmps25
  go_wp2_with fail
  exact bodyPost_ret (v := .agg #[.int .i64 q, .string (s ++ ⟨#[126]⟩), .int .i64 t, .bool a, .bool true, .int .i64 d, .int .i64 0, .int .i64 v, .int .i64 z]) (by simp [results, Tryd.results25, go_sem, r0, r1, r2, r3, r4, r5, r6, r7, r8]) rfl ⟨rfl, HB.out⟩

/-- An attempt's name, where the attempt's number is one digit. -/
def Cx.span (c : Cx) : ByteArray := if 0 < c.try_ then c.call ++ ⟨#[58]⟩ ++ digit c.try_.toNat else c.call

set_option maxRecDepth 8000 in
set_option maxHeartbeats 1000000 in
theorem span_any (c : Cx) (hs : c.call.size ≤ 1000000) (ht : c.try_ ≤ 9) (w : World) :
    Calls Tryd.prog 27 #[cxV c] w fun e w' => e = .returned (.string c.span) ∧ Below w.heap.size w w' := by
  have HS : Hid (c.span = if 0 < c.try_ then c.call ++ ⟨#[58]⟩ ++ digit c.try_.toNat else c.call) := rfl
  obtain ⟨y, hy⟩ : ∃ y, y = c.span := ⟨_, rfl⟩
  rw [← hy] at HS ⊢
  clear hy
  obtain ⟨q, s, t, a, b, d, u, v, z⟩ := c
  dsimp only at hs ht HS
  unfold cxV cxCells
  dsimp only
  obtain ⟨W, hW⟩ : ∃ W, w.alloc (.cells #[.int .i64 q, .string s, .int .i64 t, .bool a, .bool b, .int .i64 d, .int .i64 u, .int .i64 v, .int .i64 z] 24) = W := ⟨_, rfl⟩
  have hbx := heap_alloc_new w (.cells #[.int .i64 q, .string s, .int .i64 t, .bool a, .bool b, .int .i64 d, .int .i64 u, .int .i64 v, .int .i64 z] 24)
  have hb : Below w.heap.size w W := by rw [← hW]; exact (Below.refl _ _).alloc (Nat.le_refl _) _
  rw [hW] at hbx
  have HB := Lib.hid hb
  have r0 := block_cell hbx 0 _ rfl
  have r1 := block_cell hbx 1 _ rfl
  have r2 := block_cell hbx 2 _ rfl
  have r3 := block_cell hbx 3 _ rfl
  have r4 := block_cell hbx 4 _ rfl
  have r5 := block_cell hbx 5 _ rfl
  have r6 := block_cell hbx 6 _ rfl
  have r7 := block_cell hbx 7 _ rfl
  have r8 := block_cell hbx 8 _ rfl
  clear hbx hb
  by_cases h0 : 0 < t
  · obtain ⟨m, rfl⟩ : ∃ m : Nat, t = (m : Int) := ⟨t.toNat, by omega⟩
    have HS2 : Hid (y = s ++ ⟨#[58]⟩ ++ digit m) := by rw [HS.out, if_pos h0]; exact rfl
    have t1 : decide ((0 : Int) < (m : Int)) = true := decide_eq_true h0
    have h0' : 0 < m := by omega
    have HI := Lib.hid (fun k => itoa_any m (by omega) (W.drewN k))
    have h1 : (s ++ ⟨#[58]⟩).size ≤ 1000001 := by rw [ByteArray.size_append]; show _ + 1 ≤ _; omega
    have h2 : (⟨#[58]⟩ : ByteArray).size = 1 := rfl
    have h3 : (digit m).size = 1 := rfl
    clear HS h0
    go_enter Tryd.func27, Tryd.ntmps27
    go_wp2_with fail
    go_quiet (first | (go_at_call 46; with_reducible exact Calls.quiet_of_same (HI.out _)))
    go_wp2_with fail
    go_ret
    rw [HS2.out]
    exact ⟨rfl, below_drewN HB.out⟩
  · have HS2 : Hid (y = s) := by rw [HS.out, if_neg h0]; exact rfl
    have t1 : decide (0 < t) = false := decide_eq_false h0
    clear HS
    go_enter Tryd.func27, Tryd.ntmps27
    go_wp2_with fail
    go_ret
    rw [HS2.out]
    exact ⟨rfl, HB.out⟩

end Go.Proofs.YtjollcacgnfabaaDoor
