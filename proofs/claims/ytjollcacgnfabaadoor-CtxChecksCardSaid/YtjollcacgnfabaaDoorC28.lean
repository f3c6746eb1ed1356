/- The document's Bent. -/
import Derived.Test.YtjollcacgnfabaaDoorC27
import Derived.Test.YtjollcacgnfabaaDoorC21
import Derived.Test.YtjollcacgnfabaaDoorSplit
namespace Go.Proofs.YtjollcacgnfabaaDoor
open Go.RowKit
attribute [local go_sem ↓] Go.wp_at_zero Go.wp_at_succ

theorem inBlock_then (m : Nat) (K : Act → World → Prop) (Q : Exit → Act → World → Prop) : Exit.inBlock m (Exit.then K Q) = Exit.then K (Exit.inBlock m (Exit.then K Q)) := by
  funext e a w
  cases e <;> rfl

def bentText (n : Int) : ByteArray := [⟨#[]⟩, ⟨#[48]⟩, ⟨#[48, 49]⟩, ⟨#[55, 58]⟩, ⟨#[55, 58, 48, 47, 49]⟩, ⟨#[55, 58, 49]⟩, ⟨#[55, 47, 49]⟩, ⟨#[55, 58, 49, 47]⟩, ⟨#[55, 126, 126]⟩, ⟨#[55, 58, 49, 47, 48, 49]⟩, ⟨#[120]⟩, ⟨#[55, 58, 50, 47, 48, 126, 58, 49, 47, 49]⟩, ⟨#[50, 49, 52, 55, 52, 56, 51, 54, 52, 56]⟩, ⟨#[55, 58, 49, 47, 50, 49, 52, 55, 52, 56, 51, 54, 52, 56]⟩].getD (around n 14).toNat ⟨#[]⟩
def bentOf (c : Cx) (how n : Int) (s : ByteArray) : Cx :=
  if around how 9 = 0 then { c with req := n } else if around how 9 = 1 then { c with call := c.call ++ shortOf s 6 } else if around how 9 = 2 then { c with try_ := n }
  else if around how 9 = 3 then { c with shadow := !c.shadow } else if around how 9 = 4 then { c with dl := n } else if around how 9 = 5 then { c with purse := n }
  else if around how 9 = 6 then { c with ver := n } else if around how 9 = 7 then { c with prio := n } else { c with call := bentText n, req := 7 }

set_option maxRecDepth 8000 in
set_option maxHeartbeats 1000000 in
theorem bent0_any (c : Cx) (how n : Int) (s : ByteArray) (hh : -9223372036854775808 ≤ how ∧ how ≤ 9223372036854775807) (hk : around how 9 = 0) (w : World) :
    Calls Tryd.prog 12 #[cxV c, .int .i64 how, .int .i64 n, .string s] w fun e w' => e = .returned (cxV (bentOf c how n s)) ∧ Below w.heap.size w w' := by
  have HAR := Lib.hid (fun w => around_any how 9 w hh.1 hh.2 (by decide) (by decide))
  have he : bentOf c how n s = ⟨n, c.call, c.try_, c.idem, c.shadow, c.dl, c.purse, c.ver, c.prio⟩ := by
    unfold bentOf
    rw [hk]
    rfl
  rw [hk] at HAR
  rw [he]
  obtain ⟨q, t, tr, a, b, d, u, v, z⟩ := c
  dsimp only [cxV, cxCells]
  clear he hk hh
  obtain ⟨W, hW, hb, hbx⟩ := cx_boxes w ⟨n, t, tr, a, b, d, u, v, z⟩
  dsimp only [cxCells] at hW hbx
  have HB := Lib.hid hb
  have r0 := block_cell hbx 0 _ rfl
  have r1 := block_cell hbx 1 _ rfl
  have r2 := block_cell hbx 2 _ rfl
  have r3 := block_cell hbx 3 _ rfl
  have r4 := block_cell hbx 4 _ rfl
  have r5 := block_cell hbx 5 _ rfl
  have r6 := block_cell hbx 6 _ rfl
  have r7 := block_cell hbx 7 _ rfl
  have r8 := block_cell hbx 8 _ rfl
  clear hbx hb
  go_enter Tryd.func12, Tryd.ntmps12
  go_wp2_with fail
  refine (HAR.out _).mono ?_
  rintro e wz ⟨rfl, rfl⟩
  go_wp2_with fail
  exact bodyPost_ret (v := .agg #[.int .i64 n, .string t, .int .i64 tr, .bool a, .bool b, .int .i64 d, .int .i64 u, .int .i64 v, .int .i64 z]) (by simp [results, Tryd.results12, go_sem, r0, r1, r2, r3, r4, r5, r6, r7, r8]) rfl ⟨rfl, HB.out⟩

set_option maxRecDepth 8000 in
set_option maxHeartbeats 1000000 in
theorem bent2_any (c : Cx) (how n : Int) (s : ByteArray) (hh : -9223372036854775808 ≤ how ∧ how ≤ 9223372036854775807) (hk : around how 9 = 2) (w : World) :
    Calls Tryd.prog 12 #[cxV c, .int .i64 how, .int .i64 n, .string s] w fun e w' => e = .returned (cxV (bentOf c how n s)) ∧ Below w.heap.size w w' := by
  have HAR := Lib.hid (fun w => around_any how 9 w hh.1 hh.2 (by decide) (by decide))
  have he : bentOf c how n s = ⟨c.req, c.call, n, c.idem, c.shadow, c.dl, c.purse, c.ver, c.prio⟩ := by
    unfold bentOf
    rw [hk]
    rfl
  rw [hk] at HAR
  rw [he]
  obtain ⟨q, t, tr, a, b, d, u, v, z⟩ := c
  dsimp only [cxV, cxCells]
  clear he hk hh
  obtain ⟨W, hW, hb, hbx⟩ := cx_boxes w ⟨q, t, n, a, b, d, u, v, z⟩
  dsimp only [cxCells] at hW hbx
  have HB := Lib.hid hb
  have r0 := block_cell hbx 0 _ rfl
  have r1 := block_cell hbx 1 _ rfl
  have r2 := block_cell hbx 2 _ rfl
  have r3 := block_cell hbx 3 _ rfl
  have r4 := block_cell hbx 4 _ rfl
  have r5 := block_cell hbx 5 _ rfl
  have r6 := block_cell hbx 6 _ rfl
  have r7 := block_cell hbx 7 _ rfl
  have r8 := block_cell hbx 8 _ rfl
  clear hbx hb
  go_enter Tryd.func12, Tryd.ntmps12
  go_wp2_with fail
  refine (HAR.out _).mono ?_
  rintro e wz ⟨rfl, rfl⟩
  go_wp2_with fail
  exact bodyPost_ret (v := .agg #[.int .i64 q, .string t, .int .i64 n, .bool a, .bool b, .int .i64 d, .int .i64 u, .int .i64 v, .int .i64 z]) (by simp [results, Tryd.results12, go_sem, r0, r1, r2, r3, r4, r5, r6, r7, r8]) rfl ⟨rfl, HB.out⟩

set_option maxRecDepth 8000 in
set_option maxHeartbeats 1000000 in
theorem bent3_any (c : Cx) (how n : Int) (s : ByteArray) (hh : -9223372036854775808 ≤ how ∧ how ≤ 9223372036854775807) (hk : around how 9 = 3) (w : World) :
    Calls Tryd.prog 12 #[cxV c, .int .i64 how, .int .i64 n, .string s] w fun e w' => e = .returned (cxV (bentOf c how n s)) ∧ Below w.heap.size w w' := by
  have HAR := Lib.hid (fun w => around_any how 9 w hh.1 hh.2 (by decide) (by decide))
  have he : bentOf c how n s = ⟨c.req, c.call, c.try_, c.idem, !c.shadow, c.dl, c.purse, c.ver, c.prio⟩ := by
    unfold bentOf
    rw [hk]
    rfl
  rw [hk] at HAR
  rw [he]
  obtain ⟨q, t, tr, a, b, d, u, v, z⟩ := c
  dsimp only [cxV, cxCells]
  clear he hk hh
  obtain ⟨W, hW, hb, hbx⟩ := cx_boxes w ⟨q, t, tr, a, !b, d, u, v, z⟩
  dsimp only [cxCells] at hW hbx
  have HB := Lib.hid hb
  have r0 := block_cell hbx 0 _ rfl
  have r1 := block_cell hbx 1 _ rfl
  have r2 := block_cell hbx 2 _ rfl
  have r3 := block_cell hbx 3 _ rfl
  have r4 := block_cell hbx 4 _ rfl
  have r5 := block_cell hbx 5 _ rfl
  have r6 := block_cell hbx 6 _ rfl
  have r7 := block_cell hbx 7 _ rfl
  have r8 := block_cell hbx 8 _ rfl
  clear hbx hb
  go_enter Tryd.func12, Tryd.ntmps12
  go_wp2_with fail
  refine (HAR.out _).mono ?_
  rintro e wz ⟨rfl, rfl⟩
  go_wp2_with fail
  exact bodyPost_ret (v := .agg #[.int .i64 q, .string t, .int .i64 tr, .bool a, .bool !b, .int .i64 d, .int .i64 u, .int .i64 v, .int .i64 z]) (by simp [results, Tryd.results12, go_sem, r0, r1, r2, r3, r4, r5, r6, r7, r8]) rfl ⟨rfl, HB.out⟩

set_option maxRecDepth 8000 in
set_option maxHeartbeats 1000000 in
theorem bent4_any (c : Cx) (how n : Int) (s : ByteArray) (hh : -9223372036854775808 ≤ how ∧ how ≤ 9223372036854775807) (hk : around how 9 = 4) (w : World) :
    Calls Tryd.prog 12 #[cxV c, .int .i64 how, .int .i64 n, .string s] w fun e w' => e = .returned (cxV (bentOf c how n s)) ∧ Below w.heap.size w w' := by
  have HAR := Lib.hid (fun w => around_any how 9 w hh.1 hh.2 (by decide) (by decide))
  have he : bentOf c how n s = ⟨c.req, c.call, c.try_, c.idem, c.shadow, n, c.purse, c.ver, c.prio⟩ := by
    unfold bentOf
    rw [hk]
    rfl
  rw [hk] at HAR
  rw [he]
  obtain ⟨q, t, tr, a, b, d, u, v, z⟩ := c
  dsimp only [cxV, cxCells]
  clear he hk hh
  obtain ⟨W, hW, hb, hbx⟩ := cx_boxes w ⟨q, t, tr, a, b, n, u, v, z⟩
  dsimp only [cxCells] at hW hbx
  have HB := Lib.hid hb
  have r0 := block_cell hbx 0 _ rfl
  have r1 := block_cell hbx 1 _ rfl
  have r2 := block_cell hbx 2 _ rfl
  have r3 := block_cell hbx 3 _ rfl
  have r4 := block_cell hbx 4 _ rfl
  have r5 := block_cell hbx 5 _ rfl
  have r6 := block_cell hbx 6 _ rfl
  have r7 := block_cell hbx 7 _ rfl
  have r8 := block_cell hbx 8 _ rfl
  clear hbx hb
  go_enter Tryd.func12, Tryd.ntmps12
  go_wp2_with fail
  refine (HAR.out _).mono ?_
  rintro e wz ⟨rfl, rfl⟩
  go_wp2_with fail
  exact bodyPost_ret (v := .agg #[.int .i64 q, .string t, .int .i64 tr, .bool a, .bool b, .int .i64 n, .int .i64 u, .int .i64 v, .int .i64 z]) (by simp [results, Tryd.results12, go_sem, r0, r1, r2, r3, r4, r5, r6, r7, r8]) rfl ⟨rfl, HB.out⟩

set_option maxRecDepth 8000 in
set_option maxHeartbeats 1000000 in
theorem bent5_any (c : Cx) (how n : Int) (s : ByteArray) (hh : -9223372036854775808 ≤ how ∧ how ≤ 9223372036854775807) (hk : around how 9 = 5) (w : World) :
    Calls Tryd.prog 12 #[cxV c, .int .i64 how, .int .i64 n, .string s] w fun e w' => e = .returned (cxV (bentOf c how n s)) ∧ Below w.heap.size w w' := by
  have HAR := Lib.hid (fun w => around_any how 9 w hh.1 hh.2 (by decide) (by decide))
  have he : bentOf c how n s = ⟨c.req, c.call, c.try_, c.idem, c.shadow, c.dl, n, c.ver, c.prio⟩ := by
    unfold bentOf
    rw [hk]
    rfl
  rw [hk] at HAR
  rw [he]
  obtain ⟨q, t, tr, a, b, d, u, v, z⟩ := c
  dsimp only [cxV, cxCells]
  clear he hk hh
  obtain ⟨W, hW, hb, hbx⟩ := cx_boxes w ⟨q, t, tr, a, b, d, n, v, z⟩
  dsimp only [cxCells] at hW hbx
  have HB := Lib.hid hb
  have r0 := block_cell hbx 0 _ rfl
  have r1 := block_cell hbx 1 _ rfl
  have r2 := block_cell hbx 2 _ rfl
  have r3 := block_cell hbx 3 _ rfl
  have r4 := block_cell hbx 4 _ rfl
  have r5 := block_cell hbx 5 _ rfl
  have r6 := block_cell hbx 6 _ rfl
  have r7 := block_cell hbx 7 _ rfl
  have r8 := block_cell hbx 8 _ rfl
  clear hbx hb
  go_enter Tryd.func12, Tryd.ntmps12
  go_wp2_with fail
  refine (HAR.out _).mono ?_
  rintro e wz ⟨rfl, rfl⟩
  go_wp2_with fail
  exact bodyPost_ret (v := .agg #[.int .i64 q, .string t, .int .i64 tr, .bool a, .bool b, .int .i64 d, .int .i64 n, .int .i64 v, .int .i64 z]) (by simp [results, Tryd.results12, go_sem, r0, r1, r2, r3, r4, r5, r6, r7, r8]) rfl ⟨rfl, HB.out⟩

set_option maxRecDepth 8000 in
set_option maxHeartbeats 1000000 in
theorem bent6_any (c : Cx) (how n : Int) (s : ByteArray) (hh : -9223372036854775808 ≤ how ∧ how ≤ 9223372036854775807) (hk : around how 9 = 6) (w : World) :
    Calls Tryd.prog 12 #[cxV c, .int .i64 how, .int .i64 n, .string s] w fun e w' => e = .returned (cxV (bentOf c how n s)) ∧ Below w.heap.size w w' := by
  have HAR := Lib.hid (fun w => around_any how 9 w hh.1 hh.2 (by decide) (by decide))
  have he : bentOf c how n s = ⟨c.req, c.call, c.try_, c.idem, c.shadow, c.dl, c.purse, n, c.prio⟩ := by
    unfold bentOf
    rw [hk]
    rfl
  rw [hk] at HAR
  rw [he]
  obtain ⟨q, t, tr, a, b, d, u, v, z⟩ := c
  dsimp only [cxV, cxCells]
  clear he hk hh
  obtain ⟨W, hW, hb, hbx⟩ := cx_boxes w ⟨q, t, tr, a, b, d, u, n, z⟩
  dsimp only [cxCells] at hW hbx
  have HB := Lib.hid hb
  have r0 := block_cell hbx 0 _ rfl
  have r1 := block_cell hbx 1 _ rfl
  have r2 := block_cell hbx 2 _ rfl
  have r3 := block_cell hbx 3 _ rfl
  have r4 := block_cell hbx 4 _ rfl
  have r5 := block_cell hbx 5 _ rfl
  have r6 := block_cell hbx 6 _ rfl
  have r7 := block_cell hbx 7 _ rfl
  have r8 := block_cell hbx 8 _ rfl
  clear hbx hb
  go_enter Tryd.func12, Tryd.ntmps12
  go_wp2_with fail
  refine (HAR.out _).mono ?_
  rintro e wz ⟨rfl, rfl⟩
  go_wp2_with fail
  exact bodyPost_ret (v := .agg #[.int .i64 q, .string t, .int .i64 tr, .bool a, .bool b, .int .i64 d, .int .i64 u, .int .i64 n, .int .i64 z]) (by simp [results, Tryd.results12, go_sem, r0, r1, r2, r3, r4, r5, r6, r7, r8]) rfl ⟨rfl, HB.out⟩

set_option maxRecDepth 8000 in
set_option maxHeartbeats 1000000 in
theorem bent7_any (c : Cx) (how n : Int) (s : ByteArray) (hh : -9223372036854775808 ≤ how ∧ how ≤ 9223372036854775807) (hk : around how 9 = 7) (w : World) :
    Calls Tryd.prog 12 #[cxV c, .int .i64 how, .int .i64 n, .string s] w fun e w' => e = .returned (cxV (bentOf c how n s)) ∧ Below w.heap.size w w' := by
  have HAR := Lib.hid (fun w => around_any how 9 w hh.1 hh.2 (by decide) (by decide))
  have he : bentOf c how n s = ⟨c.req, c.call, c.try_, c.idem, c.shadow, c.dl, c.purse, c.ver, n⟩ := by
    unfold bentOf
    rw [hk]
    rfl
  rw [hk] at HAR
  rw [he]
  obtain ⟨q, t, tr, a, b, d, u, v, z⟩ := c
  dsimp only [cxV, cxCells]
  clear he hk hh
  obtain ⟨W, hW, hb, hbx⟩ := cx_boxes w ⟨q, t, tr, a, b, d, u, v, n⟩
  dsimp only [cxCells] at hW hbx
  have HB := Lib.hid hb
  have r0 := block_cell hbx 0 _ rfl
  have r1 := block_cell hbx 1 _ rfl
  have r2 := block_cell hbx 2 _ rfl
  have r3 := block_cell hbx 3 _ rfl
  have r4 := block_cell hbx 4 _ rfl
  have r5 := block_cell hbx 5 _ rfl
  have r6 := block_cell hbx 6 _ rfl
  have r7 := block_cell hbx 7 _ rfl
  have r8 := block_cell hbx 8 _ rfl
  clear hbx hb
  go_enter Tryd.func12, Tryd.ntmps12
  go_wp2_with fail
  refine (HAR.out _).mono ?_
  rintro e wz ⟨rfl, rfl⟩
  go_wp2_with fail
  exact bodyPost_ret (v := .agg #[.int .i64 q, .string t, .int .i64 tr, .bool a, .bool b, .int .i64 d, .int .i64 u, .int .i64 v, .int .i64 n]) (by simp [results, Tryd.results12, go_sem, r0, r1, r2, r3, r4, r5, r6, r7, r8]) rfl ⟨rfl, HB.out⟩

set_option maxRecDepth 8000 in
set_option maxHeartbeats 1000000 in
theorem bent1_any (c : Cx) (hs : c.call.size ≤ 1000000) (how n : Int) (s : ByteArray) (hh : -9223372036854775808 ≤ how ∧ how ≤ 9223372036854775807) (hk : around how 9 = 1) (w : World) :
    Calls Tryd.prog 12 #[cxV c, .int .i64 how, .int .i64 n, .string s] w fun e w' => e = .returned (cxV (bentOf c how n s)) ∧ Below w.heap.size w w' := by
  have HAR := Lib.hid (fun w => around_any how 9 w hh.1 hh.2 (by decide) (by decide))
  have HSH := Lib.hid (fun w => short_any s 6 (by decide) w)
  have hyz := shortOf_size s 6
  have he : bentOf c how n s = ⟨c.req, c.call ++ shortOf s 6, c.try_, c.idem, c.shadow, c.dl, c.purse, c.ver, c.prio⟩ := by
    unfold bentOf
    rw [hk]
    rfl
  rw [hk] at HAR
  rw [he]
  obtain ⟨y, hy⟩ : ∃ y, y = shortOf s 6 := ⟨_, rfl⟩
  rw [← hy] at HSH hyz ⊢
  obtain ⟨q, t, tr, a, b, d, u, v, z⟩ := c
  dsimp only [cxV, cxCells] at *
  clear he hk hh hy
  obtain ⟨W, hW, hb, hbx⟩ := cx_boxes w ⟨q, t ++ y, tr, a, b, d, u, v, z⟩
  dsimp only [cxCells] at hW hbx
  have HB := Lib.hid hb
  have r0 := block_cell hbx 0 _ rfl
  have r1 := block_cell hbx 1 _ rfl
  have r2 := block_cell hbx 2 _ rfl
  have r3 := block_cell hbx 3 _ rfl
  have r4 := block_cell hbx 4 _ rfl
  have r5 := block_cell hbx 5 _ rfl
  have r6 := block_cell hbx 6 _ rfl
  have r7 := block_cell hbx 7 _ rfl
  have r8 := block_cell hbx 8 _ rfl
  clear hbx hb
  go_enter Tryd.func12, Tryd.ntmps12
  go_wp2_with fail
  refine (HAR.out _).mono ?_
  rintro e wz ⟨rfl, rfl⟩
  go_wp2_with fail
  clear hW HB r0 r1 r2 r3 r4 r5 r6 r7 r8
  have n1 := heap_alloc_new w (.cells #[.int .i64 q, .string t, .int .i64 tr, .bool a, .bool b, .int .i64 d, .int .i64 u, .int .i64 v, .int .i64 z] 24)
  have n2 := heap_alloc_new (w.alloc (.cells #[.int .i64 q, .string t, .int .i64 tr, .bool a, .bool b, .int .i64 d, .int .i64 u, .int .i64 v, .int .i64 z] 24)) (.cells #[.int .i64 0, .string ⟨#[]⟩, .int .i64 0, .bool false, .bool false, .int .i64 0, .int .i64 0, .int .i64 0, .int .i64 0] 24)
  rw [show (w.alloc (.cells #[.int .i64 q, .string t, .int .i64 tr, .bool a, .bool b, .int .i64 d, .int .i64 u, .int .i64 v, .int .i64 z] 24)).heap.size = w.heap.size + 1 by simp] at n2
  have n1' := (Below.heap_alloc (w.alloc (.cells #[.int .i64 q, .string t, .int .i64 tr, .bool a, .bool b, .int .i64 d, .int .i64 u, .int .i64 v, .int .i64 z] 24)) (.cells #[.int .i64 0, .string ⟨#[]⟩, .int .i64 0, .bool false, .bool false, .int .i64 0, .int .i64 0, .int .i64 0, .int .i64 0] 24) w.heap.size (by simp)).trans n1
  have b0 := ((Below.refl w.heap.size w).alloc (Nat.le_refl _) (.cells #[.int .i64 q, .string t, .int .i64 tr, .bool a, .bool b, .int .i64 d, .int .i64 u, .int .i64 v, .int .i64 z] 24)).alloc (by simp) (.cells #[.int .i64 0, .string ⟨#[]⟩, .int .i64 0, .bool false, .bool false, .int .i64 0, .int .i64 0, .int .i64 0, .int .i64 0] 24)
  obtain ⟨W0, hW0⟩ : ∃ W0, (w.alloc (.cells #[.int .i64 q, .string t, .int .i64 tr, .bool a, .bool b, .int .i64 d, .int .i64 u, .int .i64 v, .int .i64 z] 24)).alloc (.cells #[.int .i64 0, .string ⟨#[]⟩, .int .i64 0, .bool false, .bool false, .int .i64 0, .int .i64 0, .int .i64 0, .int .i64 0] 24) = W0 := ⟨_, rfl⟩
  rw [hW0] at n1' n2 b0 ⊢
  clear n1 hW0
  have k1 := block_cell n1' 1 _ rfl
  rw [inBlock_then]
  refine wp_region_split_held 6 (fun w' => w'.cell? ⟨w.heap.size, 1, none⟩ = some (.string t)) (by kernel_rfl) (by kernel_rfl) k1 (fun K0 hK0 hHeld => ?_)
  simp only [List.take_succ_cons, List.take_zero]
  refine wpAnyH_take (i := 0) (v := ?_) rfl (by kernel_rfl) (by kernel_rfl) (by kernel_rfl) (fun _ _ _ h => h) (Or.inl ⟨by kernel_rfl, ?_⟩) (by assumption) ?_
  rotate_left
  · (intro w hSw; (try dsimp only at hSw); go_simp; (try rw [if_neg (by (try simp only [ByteArray.size_append]); omega)]); (try with_reducible rfl))
  try simp only [Act.put]
  refine wpAnyH_take (i := 1) (v := ?_) rfl (by kernel_rfl) (by kernel_rfl) (by kernel_rfl) (fun _ _ _ h => h) (Or.inl ⟨by kernel_rfl, ?_⟩) (by assumption) ?_
  rotate_left
  · (intro w hSw; (try dsimp only at hSw); go_simp; (try rw [if_neg (by (try simp only [ByteArray.size_append]); omega)]); (try with_reducible rfl))
  try simp only [Act.put]
  refine wpAnyH_take (i := 2) (v := ?_) rfl (by kernel_rfl) (by kernel_rfl) (by kernel_rfl) (fun _ _ _ h => h) (Or.inl ⟨by kernel_rfl, ?_⟩) (by assumption) ?_
  rotate_left
  · (intro w hSw; (try dsimp only at hSw); go_simp; (try rw [if_neg (by (try simp only [ByteArray.size_append]); omega)]); (try with_reducible rfl))
  try simp only [Act.put]
  refine wpAnyH_ready (rs := [3]) (by kernel_rfl) (by simp) ?_
  refine AllReadyH.cons rfl (fun K hK => ?_) AllReadyH.nil
  go_simp
  refine (HSH.out _).mono ?_
  rintro e wq ⟨rfl, rfl⟩
  refine hK.out _ _ hHeld (fun hHeld => ?_)
  clear hK K
  try simp only [Act.put]
  refine wpAnyH_take (i := 4) (v := ?_) rfl (by kernel_rfl) (by kernel_rfl) (by kernel_rfl) (fun _ _ _ h => h) (Or.inl ⟨by kernel_rfl, ?_⟩) (by assumption) ?_
  rotate_left
  · (intro w hSw; (try dsimp only at hSw); go_simp; (try rw [if_neg (by (try simp only [ByteArray.size_append]); omega)]); (try with_reducible rfl))
  try simp only [Act.put]
  refine wpAnyH_take (i := 5) (v := ?_) rfl (by kernel_rfl) (by kernel_rfl) (by kernel_rfl) (fun _ _ _ h => h) (Or.inl ⟨by kernel_rfl, ?_⟩) (by assumption) ?_
  rotate_left
  · (intro w hSw; (try dsimp only at hSw); go_simp; (try rw [if_neg (by (try simp only [ByteArray.size_append]); omega)]); (try with_reducible rfl))
  try simp only [Act.put]
  refine wpAnyH_done (by kernel_rfl) ?_ _
  simp only [Exit.then]
  refine hK0 _ _ ?_
  clear hK0 K0 hHeld
  try simp only [Act.put]
  have k0 := block_cell n1' 0 _ rfl
  have k1 := block_cell n1' 1 _ rfl
  have k2 := block_cell n1' 2 _ rfl
  have k3 := block_cell n1' 3 _ rfl
  have k4 := block_cell n1' 4 _ rfl
  have k5 := block_cell n1' 5 _ rfl
  have k6 := block_cell n1' 6 _ rfl
  have k7 := block_cell n1' 7 _ rfl
  have k8 := block_cell n1' 8 _ rfl
  have f0 := block_free n1' 0
  have f1 := block_free n1' 1
  have f2 := block_free n1' 2
  have f3 := block_free n1' 3
  have f4 := block_free n1' 4
  have f5 := block_free n1' 5
  have f6 := block_free n1' 6
  have f7 := block_free n1' 7
  have f8 := block_free n1' 8
  have c0 := block_cell n2 0 _ rfl
  have c1 := block_cell n2 1 _ rfl
  have c2 := block_cell n2 2 _ rfl
  have c3 := block_cell n2 3 _ rfl
  have c4 := block_cell n2 4 _ rfl
  have c5 := block_cell n2 5 _ rfl
  have c6 := block_cell n2 6 _ rfl
  have c7 := block_cell n2 7 _ rfl
  have c8 := block_cell n2 8 _ rfl
  have g0 := block_free n2 0
  have g1 := block_free n2 1
  have g2 := block_free n2 2
  have g3 := block_free n2 3
  have g4 := block_free n2 4
  have g5 := block_free n2 5
  have g6 := block_free n2 6
  have g7 := block_free n2 7
  have g8 := block_free n2 8
  have p2 := (Below.heap_setCell W0 ⟨w.heap.size, 1, none⟩ (.string (t ++ y)) (w.heap.size + 1) (by show w.heap.size + 1 ≠ w.heap.size; omega)).trans n2
  have p3 := b0.setCell (p := ⟨w.heap.size, 1, none⟩) (Nat.le_refl _) (.string (t ++ y))
  obtain ⟨W6, hW6, hu, u1⟩ := copy_out ⟨q, t ++ y, tr, a, b, d, u, v, z⟩ p2 p3 (Nat.le_succ _)
  simp only [cxCells, setsFrom, Nat.reduceAdd] at hW6 u1
  have HU := Lib.hid hu.drew
  have e0 := block_cell u1 0 _ rfl
  have e1 := block_cell u1 1 _ rfl
  have e2 := block_cell u1 2 _ rfl
  have e3 := block_cell u1 3 _ rfl
  have e4 := block_cell u1 4 _ rfl
  have e5 := block_cell u1 5 _ rfl
  have e6 := block_cell u1 6 _ rfl
  have e7 := block_cell u1 7 _ rfl
  have e8 := block_cell u1 8 _ rfl
  clear n1' n2 p2 p3 hu u1 b0
  go_wp2_with fail
  exact bodyPost_ret (v := .agg #[.int .i64 q, .string (t ++ y), .int .i64 tr, .bool a, .bool b, .int .i64 d, .int .i64 u, .int .i64 v, .int .i64 z]) (by simp [results, Tryd.results12, go_sem, e0, e1, e2, e3, e4, e5, e6, e7, e8]) rfl ⟨rfl, HU.out⟩

set_option maxRecDepth 8000 in
set_option maxHeartbeats 1000000 in
theorem bent8_any (c : Cx) (how n : Int) (s : ByteArray) (hh : -9223372036854775808 ≤ how ∧ how ≤ 9223372036854775807) (hn : -9223372036854775808 ≤ n ∧ n ≤ 9223372036854775807) (hk : around how 9 = 8) (w : World) :
    Calls Tryd.prog 12 #[cxV c, .int .i64 how, .int .i64 n, .string s] w fun e w' => e = .returned (cxV (bentOf c how n s)) ∧ Below w.heap.size w w' := by
  have HAR := Lib.hid (fun w => around_any how 9 w hh.1 hh.2 (by decide) (by decide))
  have HN := Lib.hid (fun w => around_any n 14 w hn.1 hn.2 (by decide) (by decide))
  obtain ⟨x0, x1⟩ := around_bd n (show (1 : Int) ≤ 14 by decide)
  have he : bentOf c how n s = ⟨7, bentText n, c.try_, c.idem, c.shadow, c.dl, c.purse, c.ver, c.prio⟩ := by
    unfold bentOf
    rw [hk]
    rfl
  rw [hk] at HAR
  rw [he]
  obtain ⟨x, hx⟩ : ∃ x, x = around n 14 := ⟨_, rfl⟩
  have HBT : Hid (bentText n = [⟨#[]⟩, ⟨#[48]⟩, ⟨#[48, 49]⟩, ⟨#[55, 58]⟩, ⟨#[55, 58, 48, 47, 49]⟩, ⟨#[55, 58, 49]⟩, ⟨#[55, 47, 49]⟩, ⟨#[55, 58, 49, 47]⟩, ⟨#[55, 126, 126]⟩, ⟨#[55, 58, 49, 47, 48, 49]⟩, ⟨#[120]⟩, ⟨#[55, 58, 50, 47, 48, 126, 58, 49, 47, 49]⟩, ⟨#[50, 49, 52, 55, 52, 56, 51, 54, 52, 56]⟩, ⟨#[55, 58, 49, 47, 50, 49, 52, 55, 52, 56, 51, 54, 52, 56]⟩].getD x.toNat ⟨#[]⟩) := by rw [hx]; exact rfl
  rw [← hx] at HN x0 x1
  obtain ⟨y, hy⟩ : ∃ y, y = bentText n := ⟨_, rfl⟩
  rw [← hy] at HBT ⊢
  obtain ⟨q, t, tr, a, b, d, u, v, z⟩ := c
  dsimp only [cxV, cxCells] at *
  clear he hk hh hy hx hn
  obtain ⟨m, rfl⟩ : ∃ m : Nat, x = (m : Int) := ⟨x.toNat, by omega⟩
  rw [Int.toNat_natCast] at HBT
  have hm : m < 14 := by omega
  obtain ⟨W, hW, hb, hz, n1, n2, n3⟩ := blocks3 w #[.int .i64 q, .string t, .int .i64 tr, .bool a, .bool b, .int .i64 d, .int .i64 u, .int .i64 v, .int .i64 z] #[.int .i64 0, .string ⟨#[]⟩, .int .i64 0, .bool false, .bool false, .int .i64 0, .int .i64 0, .int .i64 0, .int .i64 0] #[.string ⟨#[]⟩, .string ⟨#[48]⟩, .string ⟨#[48, 49]⟩, .string ⟨#[55, 58]⟩, .string ⟨#[55, 58, 48, 47, 49]⟩, .string ⟨#[55, 58, 49]⟩, .string ⟨#[55, 47, 49]⟩, .string ⟨#[55, 58, 49, 47]⟩, .string ⟨#[55, 126, 126]⟩, .string ⟨#[55, 58, 49, 47, 48, 49]⟩, .string ⟨#[120]⟩, .string ⟨#[55, 58, 50, 47, 48, 126, 58, 49, 47, 49]⟩, .string ⟨#[50, 49, 52, 55, 52, 56, 51, 54, 52, 56]⟩, .string ⟨#[55, 58, 49, 47, 50, 49, 52, 55, 52, 56, 51, 54, 52, 56]⟩] 24 24 9
  have hcell : W.cell? ⟨w.heap.size + 1 + 1, m, none⟩ = some (.string y) := by
    have hc : m = 0 ∨ m = 1 ∨ m = 2 ∨ m = 3 ∨ m = 4 ∨ m = 5 ∨ m = 6 ∨ m = 7 ∨ m = 8 ∨ m = 9 ∨ m = 10 ∨ m = 11 ∨ m = 12 ∨ m = 13 := by omega
    rw [HBT.out]
    rcases hc with rfl | rfl | rfl | rfl | rfl | rfl | rfl | rfl | rfl | rfl | rfl | rfl | rfl | rfl <;> exact block_cell n3 _ _ rfl
  have p1 := (Below.heap_setCell (W.setCell ⟨w.heap.size, 1, none⟩ (.string y)) ⟨w.heap.size, 0, none⟩ (.int .i64 7) (w.heap.size + 1) (by show w.heap.size + 1 ≠ w.heap.size; omega)).trans ((Below.heap_setCell W ⟨w.heap.size, 1, none⟩ (.string y) (w.heap.size + 1) (by show w.heap.size + 1 ≠ w.heap.size; omega)).trans n2)
  have p3 := (hb.setCell (p := ⟨w.heap.size, 1, none⟩) (Nat.le_refl _) (.string y)).setCell (p := ⟨w.heap.size, 0, none⟩) (Nat.le_refl _) (.int .i64 7)
  obtain ⟨W6, hW6, hu, u1⟩ := copy_out ⟨7, y, tr, a, b, d, u, v, z⟩ p1 p3 (Nat.le_succ _)
  simp only [cxCells, setsFrom, Nat.reduceAdd] at hW6 u1
  have HU := Lib.hid hu
  have i0 : (0 : Int) ≤ (m : Int) := by omega
  have i1 : (m : Int) < 14 := by omega
  have k0 := block_cell n1 0 _ rfl
  have k1 := block_cell n1 1 _ rfl
  have k2 := block_cell n1 2 _ rfl
  have k3 := block_cell n1 3 _ rfl
  have k4 := block_cell n1 4 _ rfl
  have k5 := block_cell n1 5 _ rfl
  have k6 := block_cell n1 6 _ rfl
  have k7 := block_cell n1 7 _ rfl
  have k8 := block_cell n1 8 _ rfl
  have f0 := block_free n1 0
  have f1 := block_free n1 1
  have f2 := block_free n1 2
  have f3 := block_free n1 3
  have f4 := block_free n1 4
  have f5 := block_free n1 5
  have f6 := block_free n1 6
  have f7 := block_free n1 7
  have f8 := block_free n1 8
  have c0 := block_cell n2 0 _ rfl
  have c1 := block_cell n2 1 _ rfl
  have c2 := block_cell n2 2 _ rfl
  have c3 := block_cell n2 3 _ rfl
  have c4 := block_cell n2 4 _ rfl
  have c5 := block_cell n2 5 _ rfl
  have c6 := block_cell n2 6 _ rfl
  have c7 := block_cell n2 7 _ rfl
  have c8 := block_cell n2 8 _ rfl
  have g0 := block_free n2 0
  have g1 := block_free n2 1
  have g2 := block_free n2 2
  have g3 := block_free n2 3
  have g4 := block_free n2 4
  have g5 := block_free n2 5
  have g6 := block_free n2 6
  have g7 := block_free n2 7
  have g8 := block_free n2 8
  have e0 := block_cell u1 0 _ rfl
  have e1 := block_cell u1 1 _ rfl
  have e2 := block_cell u1 2 _ rfl
  have e3 := block_cell u1 3 _ rfl
  have e4 := block_cell u1 4 _ rfl
  have e5 := block_cell u1 5 _ rfl
  have e6 := block_cell u1 6 _ rfl
  have e7 := block_cell u1 7 _ rfl
  have e8 := block_cell u1 8 _ rfl
  clear n1 n2 n3 p1 p3 hu u1 hb hz
  go_enter Tryd.func12, Tryd.ntmps12
  go_wp2_with fail
  refine (HAR.out _).mono ?_
  rintro e wz ⟨rfl, rfl⟩
  go_wp2_with fail
  refine (HN.out _).mono ?_
  rintro e wy ⟨rfl, rfl⟩
  go_wp2_with fail
  exact bodyPost_ret (v := .agg #[.int .i64 7, .string y, .int .i64 tr, .bool a, .bool b, .int .i64 d, .int .i64 u, .int .i64 v, .int .i64 z]) (by simp [results, Tryd.results12, go_sem, e0, e1, e2, e3, e4, e5, e6, e7, e8]) rfl ⟨rfl, HU.out⟩

theorem bent_any (c : Cx) (hs : c.call.size ≤ 1000000) (how n : Int) (s : ByteArray) (hh : -9223372036854775808 ≤ how ∧ how ≤ 9223372036854775807) (hn : -9223372036854775808 ≤ n ∧ n ≤ 9223372036854775807) (w : World) :
    Calls Tryd.prog 12 #[cxV c, .int .i64 how, .int .i64 n, .string s] w fun e w' => e = .returned (cxV (bentOf c how n s)) ∧ Below w.heap.size w w' := by
  obtain ⟨h0, h1⟩ := around_bd how (show (1 : Int) ≤ 9 by decide)
  rcases (show around how 9 = 0 ∨ around how 9 = 1 ∨ around how 9 = 2 ∨ around how 9 = 3 ∨ around how 9 = 4 ∨ around how 9 = 5 ∨ around how 9 = 6 ∨ around how 9 = 7 ∨ around how 9 = 8 by omega) with h | h | h | h | h | h | h | h | h
  · exact bent0_any c how n s hh h w
  · exact bent1_any c hs how n s hh h w
  · exact bent2_any c how n s hh h w
  · exact bent3_any c how n s hh h w
  · exact bent4_any c how n s hh h w
  · exact bent5_any c how n s hh h w
  · exact bent6_any c how n s hh h w
  · exact bent7_any c how n s hh h w
  · exact bent8_any c how n s hh hn h w

theorem bentText_size (n : Int) : (bentText n).size ≤ 14 := by
  obtain ⟨h0, h1⟩ := around_bd n (show (1 : Int) ≤ 14 by decide)
  unfold bentText
  obtain ⟨m, hm⟩ : ∃ m : Nat, m = (around n 14).toNat := ⟨_, rfl⟩
  rw [← hm]
  have hc : m = 0 ∨ m = 1 ∨ m = 2 ∨ m = 3 ∨ m = 4 ∨ m = 5 ∨ m = 6 ∨ m = 7 ∨ m = 8 ∨ m = 9 ∨ m = 10 ∨ m = 11 ∨ m = 12 ∨ m = 13 := by omega
  clear hm
  rcases hc with rfl | rfl | rfl | rfl | rfl | rfl | rfl | rfl | rfl | rfl | rfl | rfl | rfl | rfl <;> decide
theorem bentOf_size (c : Cx) (how n : Int) (s : ByteArray) : (bentOf c how n s).call.size ≤ c.call.size + 14 := by
  have h1 := bentText_size n
  have h2 := shortOf_size s 6
  unfold bentOf
  repeat' split
  all_goals first
    | exact Nat.le_add_right _ _
    | (show (c.call ++ shortOf s 6).size ≤ _; rw [ByteArray.size_append]; omega)
    | (show (bentText n).size ≤ _; omega)

end Go.Proofs.YtjollcacgnfabaaDoor
