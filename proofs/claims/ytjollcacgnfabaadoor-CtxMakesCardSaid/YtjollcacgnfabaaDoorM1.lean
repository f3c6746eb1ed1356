/- Kid at any place: ctx's. -/
import Derived.Test.YtjollcacgnfabaaDoorC2
import Derived.Test.YtjollcacgnfabaaDoorNum
namespace Go.Proofs.YtjollcacgnfabaaDoor
open Go.RowKit
attribute [local go_sem ↓] Go.wp_at_zero Go.wp_at_succ

/-- The i-th call, of so many, any i. -/
def Cx.kidN (c : Cx) (i : Int) (k : Nat) (hop : Int) : Cx := { c with call := c.span ++ ⟨#[47]⟩ ++ numText i, try_ := 0, dl := c.dl - hop, purse := shareAt c.purse k i }

set_option maxRecDepth 8000 in
set_option maxHeartbeats 2000000 in
theorem kidN_any (c : Cx) (i : Int) (k : Nat) (hop : Int) (hs : c.call.size ≤ 1000000) (ht : c.try_ ≤ 9) (hi : -9223372036854775808 ≤ i ∧ i ≤ 9223372036854775807) (hk : k ≤ 1000) (hp : 0 ≤ c.purse ∧ c.purse ≤ 2147483647) (hd : -4294967296 ≤ c.dl ∧ c.dl ≤ 4294967296) (hh : -4294967296 ≤ hop ∧ hop ≤ 4294967296) (w : World) (hP : PowAt w) :
    Calls Tryd.prog 23 #[cxV c, .int .i64 i, .int .i64 k, .int .i64 hop] w fun e w' => e = .returned (cxV (c.kidN i k hop)) ∧ Below w.heap.size w w' := by
  have HSP := Lib.hid (fun w => span_any c hs ht w)
  have hsz := span_size c
  obtain ⟨y, hy⟩ : ∃ y, y = c.span := ⟨_, rfl⟩
  have HKD : Hid (c.kidN i k hop = ⟨c.req, y ++ ⟨#[47]⟩ ++ numText i, 0, c.idem, c.shadow, c.dl - hop, shareAt c.purse k i, c.ver, c.prio⟩) := by rw [hy]; exact rfl
  rw [← hy] at HSP hsz
  rw [HKD.out]
  have HI := Lib.hid (fun w => itoa_all i hi w)
  have HSH := Lib.hid (fun w => share_any c.purse k i w hp.1 hp.2 hk)
  clear hy HKD
  obtain ⟨q, s, t, a, b, d, u, v, z⟩ := c
  dsimp only at *
  obtain ⟨p, hpp⟩ : ∃ p, p = shareAt u k i := ⟨_, rfl⟩
  rw [← hpp] at HSH ⊢
  clear hpp
  unfold cxV cxCells at *
  dsimp only at *
  have g1 : IntKind.i64.wrap (d - hop) = d - hop := IntWalk.i64_in _ (by omega)
  have h1 : (y ++ ⟨#[47]⟩).size ≤ 1000003 := by rw [ByteArray.size_append]; show _ + 1 ≤ _; omega
  have h2 : (⟨#[47]⟩ : ByteArray).size = 1 := rfl
  have h3 := numText_size i hi
  have HP := Lib.hid hP
  clear hP
  have h4 : y.size ≤ 1000002 := by omega
  obtain ⟨W, hW⟩ : ∃ W, (w.alloc (.cells #[.int .i64 q, .string s, .int .i64 t, .bool a, .bool b, .int .i64 d, .int .i64 u, .int .i64 v, .int .i64 z] 24)).alloc (.cells #[.int .i64 0, .string ⟨#[]⟩, .int .i64 0, .bool false, .bool false, .int .i64 0, .int .i64 0, .int .i64 0, .int .i64 0] 24) = W := ⟨_, rfl⟩
  obtain ⟨W1, hW1⟩ : ∃ W1, w.alloc (.cells #[.int .i64 q, .string s, .int .i64 t, .bool a, .bool b, .int .i64 d, .int .i64 u, .int .i64 v, .int .i64 z] 24) = W1 := ⟨_, rfl⟩
  have n1 := heap_alloc_new w (.cells #[.int .i64 q, .string s, .int .i64 t, .bool a, .bool b, .int .i64 d, .int .i64 u, .int .i64 v, .int .i64 z] 24)
  have z1 : W1.heap.size = w.heap.size + 1 := by rw [← hW1]; simp
  obtain ⟨N2, hN2⟩ : ∃ N2, W1.heap.size = N2 := ⟨_, rfl⟩
  have HNE : Hid (N2 = w.heap.size + 1) := hN2.symm.trans z1
  have b1 : Below w.heap.size w W1 := by rw [← hW1]; exact (Below.refl _ _).alloc (Nat.le_refl _) _
  rw [hW1] at n1 hW
  have n2 := heap_alloc_new W1 (.cells #[.int .i64 0, .string ⟨#[]⟩, .int .i64 0, .bool false, .bool false, .int .i64 0, .int .i64 0, .int .i64 0, .int .i64 0] 24)
  have b2 : Below W1.heap.size W1 W := by rw [← hW]; exact (Below.refl _ _).alloc (Nat.le_refl _) _
  rw [hW, hN2] at n2
  have m1 := (b2.block w.heap.size (by omega)).trans n1
  have HB := Lib.hid (btrans b1 b2)
  have hz : W.heap.size = w.heap.size + 2 := by rw [← hW]; simp; omega
  have HZ := Lib.hid hz
  have HM1 := Lib.hid m1
  have HN2 := Lib.hid n2
  have k0 := block_cell m1 0 _ rfl
  have k1 := block_cell m1 1 _ rfl
  have k2 := block_cell m1 2 _ rfl
  have k3 := block_cell m1 3 _ rfl
  have k4 := block_cell m1 4 _ rfl
  have k5 := block_cell m1 5 _ rfl
  have k6 := block_cell m1 6 _ rfl
  have k7 := block_cell m1 7 _ rfl
  have k8 := block_cell m1 8 _ rfl
  have f0 := block_free m1 0
  have f1 := block_free m1 1
  have f2 := block_free m1 2
  have f3 := block_free m1 3
  have f4 := block_free m1 4
  have f5 := block_free m1 5
  have f6 := block_free m1 6
  have f7 := block_free m1 7
  have f8 := block_free m1 8
  clear n1 z1 b1 n2 b2 m1 hz
  go_enter Tryd.func23, Tryd.ntmps23
  go_wp2_with fail
  refine (HSP.out _).mono ?_
  rintro e w1 ⟨rfl, hb1⟩
  clear hW hW1 hN2 k0 k1 k2 k3 k4 k5 k6 k7 k8 f0 f1 f2 f3 f4 f5 f6 f7 f8
  have HP1 := Lib.hid (HP.out.keep (btrans HB.out hb1) (Nat.le_refl _))
  have HBO := Lib.hid hb1
  clear hb1
  go_wp2_with fail
  refine (HI.out _ HP1.out).mono ?_
  rintro e w1 ⟨rfl, hb2⟩
  have hb1 := btrans HBO.out hb2
  clear hb2
  have m1 := (hb1.block w.heap.size (by have := HZ.out; omega)).trans HM1.out
  have m2 := (hb1.block N2 (by have := HZ.out; have := HNE.out; omega)).trans HN2.out
  have HB1 := Lib.hid (btrans HB.out hb1)
  have HS1 : Hid (w.heap.size + 2 ≤ w1.heap.size) := by have h1 := HZ.out; have h2 := hb1.size; show _ ≤ _; omega
  have q2 := setCell_block _ w.heap.size 5 _ _ _ (.int .i64 (d - hop)) (setCell_block _ w.heap.size 2 _ _ _ (.int .i64 0) (setCell_block w1 w.heap.size 1 _ _ _ (.string (y ++ ⟨#[47]⟩ ++ numText i)) m1))
  simp only [List.setIfInBounds_toArray, List.set_cons_zero, List.set_cons_succ] at q2
  have hne : N2 ≠ w.heap.size := by have := HNE.out; omega
  have hblk : ∀ (U : World) (o : Nat) (x : Value), (U.setCell ⟨w.heap.size, o, none⟩ x).heap[N2]? = U.heap[N2]? := fun U o x => Below.heap_setCell U ⟨w.heap.size, o, none⟩ x N2 hne
  have HBK := Lib.hid hblk
  have q31 := hblk w1 1 (.string (y ++ ⟨#[47]⟩ ++ numText i))
  rw [m2] at q31
  have q32 := hblk (w1.setCell ⟨w.heap.size, 1, none⟩ (.string (y ++ ⟨#[47]⟩ ++ numText i))) 2 (.int .i64 0)
  rw [q31] at q32
  have q3 := hblk ((w1.setCell ⟨w.heap.size, 1, none⟩ (.string (y ++ ⟨#[47]⟩ ++ numText i))).setCell ⟨w.heap.size, 2, none⟩ (.int .i64 0)) 5 (.int .i64 (d - hop))
  rw [q32] at q3
  have q4 := ((HB1.out.setCell (p := ⟨w.heap.size, 1, none⟩) (Nat.le_refl _) (.string (y ++ ⟨#[47]⟩ ++ numText i))).setCell (p := ⟨w.heap.size, 2, none⟩) (Nat.le_refl _) (.int .i64 0)).setCell (p := ⟨w.heap.size, 5, none⟩) (Nat.le_refl _) (.int .i64 (d - hop))
  obtain ⟨X, hX⟩ : ∃ X, ((w1.setCell ⟨w.heap.size, 1, none⟩ (.string (y ++ ⟨#[47]⟩ ++ numText i))).setCell ⟨w.heap.size, 2, none⟩ (.int .i64 0)).setCell ⟨w.heap.size, 5, none⟩ (.int .i64 (d - hop)) = X := ⟨_, rfl⟩
  rw [hX] at q2 q3 q4
  have HX2 := Lib.hid q2
  have HX3 := Lib.hid q3
  have HX4 := Lib.hid q4
  have x6 := block_cell q2 6 (.int .i64 u) rfl
  have k0 := block_cell m1 0 _ rfl
  have k1 := block_cell m1 1 _ rfl
  have k2 := block_cell m1 2 _ rfl
  have k3 := block_cell m1 3 _ rfl
  have k4 := block_cell m1 4 _ rfl
  have k5 := block_cell m1 5 _ rfl
  have k6 := block_cell m1 6 _ rfl
  have k7 := block_cell m1 7 _ rfl
  have k8 := block_cell m1 8 _ rfl
  have f0 := block_free m1 0
  have f1 := block_free m1 1
  have f2 := block_free m1 2
  have f3 := block_free m1 3
  have f4 := block_free m1 4
  have f5 := block_free m1 5
  have f6 := block_free m1 6
  have f7 := block_free m1 7
  have f8 := block_free m1 8
  clear q2 q3 q31 q32 q4 m1 m2 hb1 hblk hne
  go_wp2_with fail
  refine (HSH.out _).mono ?_
  rintro e w4 ⟨rfl, hb4⟩
  have y1 := (hb4.block w.heap.size (Array.getElem?_eq_some_iff.1 HX2.out).1).trans HX2.out
  have y2 := (hb4.block N2 (Array.getElem?_eq_some_iff.1 HX3.out).1).trans HX3.out
  have y3 := HX4.out.trans (hb4.mono HX4.out.size)
  have y6 := block_cell y1 6 (.int .i64 u) rfl
  have yf6 := block_free y1 6
  have v1 := setCell_block w4 w.heap.size 6 _ _ _ (.int .i64 p) y1
  simp only [List.setIfInBounds_toArray, List.set_cons_zero, List.set_cons_succ] at v1
  have v2 := HBK.out w4 6 (.int .i64 p)
  rw [y2] at v2
  have v3 := y3.setCell (p := ⟨w.heap.size, 6, none⟩) (Nat.le_refl _) (.int .i64 p)
  obtain ⟨W5, hW5⟩ : ∃ W5, w4.setCell ⟨w.heap.size, 6, none⟩ (.int .i64 p) = W5 := ⟨_, rfl⟩
  rw [hW5] at v1 v2 v3
  have r0 := block_cell v1 0 _ rfl
  have r1 := block_cell v1 1 _ rfl
  have r2 := block_cell v1 2 _ rfl
  have r3 := block_cell v1 3 _ rfl
  have r4 := block_cell v1 4 _ rfl
  have r5 := block_cell v1 5 _ rfl
  have r6 := block_cell v1 6 _ rfl
  have r7 := block_cell v1 7 _ rfl
  have r8 := block_cell v1 8 _ rfl
  have g0 := block_free v2 0
  have g1 := block_free v2 1
  have g2 := block_free v2 2
  have g3 := block_free v2 3
  have g4 := block_free v2 4
  have g5 := block_free v2 5
  have g6 := block_free v2 6
  have g7 := block_free v2 7
  have g8 := block_free v2 8
  have c0 := block_cell v2 0 _ rfl
  have c1 := block_cell v2 1 _ rfl
  have c2 := block_cell v2 2 _ rfl
  have c3 := block_cell v2 3 _ rfl
  have c4 := block_cell v2 4 _ rfl
  have c5 := block_cell v2 5 _ rfl
  have c6 := block_cell v2 6 _ rfl
  have c7 := block_cell v2 7 _ rfl
  have c8 := block_cell v2 8 _ rfl
  have u1 := setsFrom_block N2 24 [.int .i64 q, .string (y ++ ⟨#[47]⟩ ++ numText i), .int .i64 0, .bool a, .bool b, .int .i64 (d - hop), .int .i64 p, .int .i64 v, .int .i64 z] 0 W5 _ v2
  have u2 := setsFrom_below N2 (show w.heap.size ≤ N2 by have := HNE.out; omega) [.int .i64 q, .string (y ++ ⟨#[47]⟩ ++ numText i), .int .i64 0, .bool a, .bool b, .int .i64 (d - hop), .int .i64 p, .int .i64 v, .int .i64 z] 0 W5 v3
  obtain ⟨W6, hW6⟩ : ∃ W6, setsFrom W5 N2 0 [.int .i64 q, .string (y ++ ⟨#[47]⟩ ++ numText i), .int .i64 0, .bool a, .bool b, .int .i64 (d - hop), .int .i64 p, .int .i64 v, .int .i64 z] = W6 := ⟨_, rfl⟩
  rw [hW6] at u1 u2
  simp only [setsFrom, Nat.reduceAdd] at hW6
  simp only [arrFrom, Nat.reduceAdd, List.setIfInBounds_toArray, List.set_cons_zero, List.set_cons_succ] at u1
  have HU2 := Lib.hid u2
  have e0 := block_cell u1 0 _ rfl
  have e1 := block_cell u1 1 _ rfl
  have e2 := block_cell u1 2 _ rfl
  have e3 := block_cell u1 3 _ rfl
  have e4 := block_cell u1 4 _ rfl
  have e5 := block_cell u1 5 _ rfl
  have e6 := block_cell u1 6 _ rfl
  have e7 := block_cell u1 7 _ rfl
  have e8 := block_cell u1 8 _ rfl
  clear hb4 y1 y2 y3 v1 v2 v3 u1 u2 x6 k0 k1 k2 k3 k4 k5 k6 k7 k8 f0 f1 f2 f3 f4 f5 f6 f7 f8
  go_wp2_with fail
  exact bodyPost_ret (v := .agg #[.int .i64 q, .string (y ++ ⟨#[47]⟩ ++ numText i), .int .i64 0, .bool a, .bool b, .int .i64 (d - hop), .int .i64 p, .int .i64 v, .int .i64 z]) (by simp [results, Tryd.results23, go_sem, e0, e1, e2, e3, e4, e5, e6, e7, e8]) rfl ⟨rfl, HU2.out⟩

end Go.Proofs.YtjollcacgnfabaaDoor
