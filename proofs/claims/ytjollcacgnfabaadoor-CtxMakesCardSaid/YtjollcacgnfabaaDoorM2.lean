/- Kid at any place: the document's. -/
import Derived.Test.YtjollcacgnfabaaDoorC12
import Derived.Test.YtjollcacgnfabaaDoorM1
namespace Go.Proofs.YtjollcacgnfabaaDoor
open Go.RowKit
attribute [local go_sem ↓] Go.wp_at_zero Go.wp_at_succ

set_option maxRecDepth 8000 in
set_option maxHeartbeats 2000000 in
theorem rkidN_any (c : Cx) (i : Int) (k : Nat) (hop : Int) (hs : c.call.size ≤ 1000000) (ht : c.try_ ≤ 9) (hi : -9223372036854775808 ≤ i ∧ i ≤ 9223372036854775807) (hk : k ≤ 1000) (hp : 0 ≤ c.purse ∧ c.purse ≤ 2147483647) (hd : -4294967296 ≤ c.dl ∧ c.dl ≤ 4294967296) (hh : -4294967296 ≤ hop ∧ hop ≤ 4294967296) (w : World) :
    Calls Tryd.prog 36 #[cxV c, .int .i64 i, .int .i64 k, .int .i64 hop] w fun e w' => e = .returned (cxV (c.kidN i k hop)) ∧ Below w.heap.size w w' := by
  have HSP := Lib.hid (fun w => rspan_any c hs ht w)
  have hsz := span_size c
  obtain ⟨y, hy⟩ : ∃ y, y = c.span := ⟨_, rfl⟩
  have HKD : Hid (c.kidN i k hop = ⟨c.req, y ++ ⟨#[47]⟩ ++ numText i, 0, c.idem, c.shadow, c.dl - hop, shareAt c.purse k i, c.ver, c.prio⟩) := by rw [hy]; exact rfl
  rw [← hy] at HSP hsz
  rw [HKD.out]
  have HI := Lib.hid (fun w => dec_all i hi w)
  clear hy HKD
  obtain ⟨q, s, t, a, b, d, u, v, z⟩ := c
  dsimp only at *
  obtain ⟨p, hpp⟩ : ∃ p, p = shareAt u k i := ⟨_, rfl⟩
  rw [← hpp]
  have HPP := Lib.hid hpp
  clear hpp
  unfold cxV cxCells at *
  dsimp only at *
  have g1 : IntKind.i64.wrap (d - hop) = d - hop := IntWalk.i64_in _ (by omega)
  have h1 : (y ++ ⟨#[47]⟩).size ≤ 1000003 := by rw [ByteArray.size_append]; show _ + 1 ≤ _; omega
  have h2 : (⟨#[47]⟩ : ByteArray).size = 1 := rfl
  have h3 := numText_size i hi
  have h4 : y.size ≤ 1000002 := by omega
  have HSPL := Lib.hid (fun w => rsplit_any u k w hp.1 hp.2 hk)
  obtain ⟨W, hW, hb, hz, n1, n2, n3⟩ := blocks3 w #[.int .i64 q, .string s, .int .i64 t, .bool a, .bool b, .int .i64 d, .int .i64 u, .int .i64 v, .int .i64 z] #[.int .i64 0, .string ⟨#[]⟩, .int .i64 0, .bool false, .bool false, .int .i64 0, .int .i64 0, .int .i64 0, .int .i64 0] #[.int .i64 q, .string s, .int .i64 t, .bool a, .bool b, .int .i64 d, .int .i64 u, .int .i64 v, .int .i64 z] 24 24 24
  have HB := Lib.hid hb
  have HZ := Lib.hid hz
  have HN1 := Lib.hid n1
  have HN2 := Lib.hid n2
  have HN3 := Lib.hid n3
  have k0 := block_cell n1 0 _ rfl
  have k1 := block_cell n1 1 _ rfl
  have k2 := block_cell n1 2 _ rfl
  have k3 := block_cell n1 3 _ rfl
  have k4 := block_cell n1 4 _ rfl
  have k5 := block_cell n1 5 _ rfl
  have k6 := block_cell n1 6 _ rfl
  have k7 := block_cell n1 7 _ rfl
  have k8 := block_cell n1 8 _ rfl
  have g0 := block_free n3 0
  have g1 := block_free n3 1
  have g2 := block_free n3 2
  have g3 := block_free n3 3
  have g4 := block_free n3 4
  have g5 := block_free n3 5
  have g6 := block_free n3 6
  have g7 := block_free n3 7
  have g8 := block_free n3 8
  have j0 := block_cell n3 0 _ rfl
  have j1 := block_cell n3 1 _ rfl
  have j2 := block_cell n3 2 _ rfl
  have j3 := block_cell n3 3 _ rfl
  have j4 := block_cell n3 4 _ rfl
  have j5 := block_cell n3 5 _ rfl
  have j6 := block_cell n3 6 _ rfl
  have j7 := block_cell n3 7 _ rfl
  have j8 := block_cell n3 8 _ rfl
  clear hb hz n1 n2 n3
  go_enter Tryd.func36, Tryd.ntmps36
  go_wp2_with fail
  refine (HSP.out _).mono ?_
  rintro e w1 ⟨rfl, hb1⟩
  go_wp2_with fail
  refine (HI.out _).mono ?_
  rintro e w2 ⟨rfl, hb2⟩
  have hb12 := btrans hb1 hb2
  have m1 := (hb12.block _ (by have := HZ.out; omega)).trans HN1.out
  have m2 := (hb12.block _ (by have := HZ.out; omega)).trans HN2.out
  have m3 := (hb12.block _ (by have := HZ.out; omega)).trans HN3.out
  have HB2 := Lib.hid (btrans HB.out hb12)
  have HS2 : Hid (w.heap.size + 3 ≤ w2.heap.size) := by have h1 := HZ.out; have h2 := hb12.size; show _ ≤ _; omega
  clear hW k0 k1 k2 k3 k4 k5 k6 k7 k8 g0 g1 g2 g3 g4 g5 g6 g7 g8 j0 j1 j2 j3 j4 j5 j6 j7 j8 hb1 hb2 hb12
  have g1 : IntKind.i64.wrap (d - hop) = d - hop := IntWalk.i64_in _ (by omega)
  have k0 := block_cell m1 0 _ rfl
  have k1 := block_cell m1 1 _ rfl
  have k2 := block_cell m1 2 _ rfl
  have k3 := block_cell m1 3 _ rfl
  have k4 := block_cell m1 4 _ rfl
  have k5 := block_cell m1 5 _ rfl
  have k6 := block_cell m1 6 _ rfl
  have k7 := block_cell m1 7 _ rfl
  have k8 := block_cell m1 8 _ rfl
  have j0 := block_cell m3 0 _ rfl
  have j1 := block_cell m3 1 _ rfl
  have j2 := block_cell m3 2 _ rfl
  have j3 := block_cell m3 3 _ rfl
  have j4 := block_cell m3 4 _ rfl
  have j5 := block_cell m3 5 _ rfl
  have j6 := block_cell m3 6 _ rfl
  have j7 := block_cell m3 7 _ rfl
  have j8 := block_cell m3 8 _ rfl
  have f0 := block_free m3 0
  have f1 := block_free m3 1
  have f2 := block_free m3 2
  have f3 := block_free m3 3
  have f4 := block_free m3 4
  have f5 := block_free m3 5
  have f6 := block_free m3 6
  have f7 := block_free m3 7
  have f8 := block_free m3 8
  obtain ⟨C, hC⟩ : ∃ C, C = w.heap.size + 1 + 1 := ⟨_, rfl⟩
  have q3 := setCell_block _ C 6 _ _ _ (.int .i64 0) (setCell_block _ C 5 _ _ _ (.int .i64 (d - hop)) (setCell_block _ C 2 _ _ _ (.int .i64 0) (setCell_block w2 C 1 _ _ _ (.string (y ++ ⟨#[47]⟩ ++ numText i)) (hC ▸ m3))))
  simp only [List.setIfInBounds_toArray, List.set_cons_zero, List.set_cons_succ] at q3
  have hblk : ∀ (U : World) (o : Nat) (x : Value), (U.setCell ⟨C, o, none⟩ x).heap[w.heap.size + 1]? = U.heap[w.heap.size + 1]? := fun U o x => Below.heap_setCell U ⟨C, o, none⟩ x _ (by show w.heap.size + 1 ≠ C; omega)
  have q2 := (((hblk _ 6 (.int .i64 0)).trans (hblk _ 5 (.int .i64 (d - hop)))).trans ((hblk _ 2 (.int .i64 0)).trans (hblk w2 1 (.string (y ++ ⟨#[47]⟩ ++ numText i))))).trans m2
  have q4 := (((HB2.out.setCell (p := ⟨C, 1, none⟩) (by show w.heap.size ≤ C; omega) (.string (y ++ ⟨#[47]⟩ ++ numText i))).setCell (p := ⟨C, 2, none⟩) (by show w.heap.size ≤ C; omega) (.int .i64 0)).setCell (p := ⟨C, 5, none⟩) (by show w.heap.size ≤ C; omega) (.int .i64 (d - hop))).setCell (p := ⟨C, 6, none⟩) (by show w.heap.size ≤ C; omega) (.int .i64 0)
  have HBK := Lib.hid hblk
  have hblkA : ∀ (U : World) (o : Nat) (x : Value), (U.setCell ⟨C, o, none⟩ x).heap[w.heap.size]? = U.heap[w.heap.size]? := fun U o x => Below.heap_setCell U ⟨C, o, none⟩ x _ (by show w.heap.size ≠ C; omega)
  have q1 := (((hblkA _ 6 (.int .i64 0)).trans (hblkA _ 5 (.int .i64 (d - hop)))).trans ((hblkA _ 2 (.int .i64 0)).trans (hblkA w2 1 (.string (y ++ ⟨#[47]⟩ ++ numText i))))).trans m1
  rw [hC] at q1 q2 q3 q4 HBK
  obtain ⟨X, hX⟩ : ∃ X, (((w2.setCell ⟨w.heap.size + 1 + 1, 1, none⟩ (.string (y ++ ⟨#[47]⟩ ++ numText i))).setCell ⟨w.heap.size + 1 + 1, 2, none⟩ (.int .i64 0)).setCell ⟨w.heap.size + 1 + 1, 5, none⟩ (.int .i64 (d - hop))).setCell ⟨w.heap.size + 1 + 1, 6, none⟩ (.int .i64 0) = X := ⟨_, rfl⟩
  rw [hX] at q1 q2 q3 q4
  have xa6 := block_cell q1 6 _ rfl
  have HX2 := Lib.hid q2
  have HX3 := Lib.hid q3
  have HX4 := Lib.hid q4
  clear q1 q2 q3 q4 m1 m2 m3 hblk hblkA hC
  go_wp2_with fail
  refine (HSPL.out _).mono ?_
  rintro e w4 ⟨vv, sb, rfl, hv, hg, hb4⟩
  clear hX xa6 k0 k1 k2 k3 k4 k5 k6 k7 k8 j0 j1 j2 j3 j4 j5 j6 j7 j8 f0 f1 f2 f3 f4 f5 f6 f7 f8
  have y2 := (hb4.block _ (Array.getElem?_eq_some_iff.1 HX2.out).1).trans HX2.out
  have y3 := (hb4.block _ (Array.getElem?_eq_some_iff.1 HX3.out).1).trans HX3.out
  have y4 := HX4.out.trans (hb4.mono HX4.out.size)
  obtain ⟨la, lc, rfl⟩ := RowAt.form hv
  rw [splitL_length]
  rcases (show (0 ≤ i ∧ i < (k : Int)) ∨ (0 ≤ i ∧ ¬ i < (k : Int)) ∨ i < 0 by omega) with hik | hik | hik
  · obtain ⟨i, rfl⟩ : ∃ j : Nat, i = (j : Int) := ⟨i.toNat, by omega⟩
    replace hik : i < k := by omega
    rcases hv.2.2 with ⟨_, h0', _⟩ | ⟨g, off, cap, cur, hvv, hsg, hh, _, _, _, htt⟩
    · rw [splitL_length] at h0'; omega
    injection hvv with ex1 ex2 ex3
    subst ex1
    have cz := row_cell hh htt i (by rw [splitL_length]; omega)
    rw [intCells_get, splitL_get u k i hik] at cz
    have hpe : share u k i = p := by
      rw [HPP.out]
      unfold shareAt
      rw [if_pos (by omega)]
      rfl
    rw [hpe] at cz
    have cz1 : w4.cell? ⟨g, off + i, none⟩ = some (.int .i64 p) := cz
    have i1 : (0 : Int) ≤ (i : Int) := by omega
    have i2 : (i : Int) < (k : Int) := by omega
    have t1 : decide ((i : Int) ≥ 0) = true := decide_eq_true (by omega)
    have yf := block_free y3 6
    have yc := block_cell y3 6 _ rfl
    have v3 := setCell_block w4 (w.heap.size + 1 + 1) 6 _ _ _ (.int .i64 p) y3
    simp only [List.setIfInBounds_toArray, List.set_cons_zero, List.set_cons_succ] at v3
    have v2 := (HBK.out w4 6 (.int .i64 p)).trans y2
    have v4 := y4.setCell (p := ⟨w.heap.size + 1 + 1, 6, none⟩) (by show w.heap.size ≤ w.heap.size + 1 + 1; omega) (.int .i64 p)
    obtain ⟨W5, hW5⟩ : ∃ W5, w4.setCell ⟨w.heap.size + 1 + 1, 6, none⟩ (.int .i64 p) = W5 := ⟨_, rfl⟩
    rw [hW5] at v2 v3 v4
    have r0 := block_cell v3 0 _ rfl
    have r1 := block_cell v3 1 _ rfl
    have r2 := block_cell v3 2 _ rfl
    have r3 := block_cell v3 3 _ rfl
    have r4 := block_cell v3 4 _ rfl
    have r5 := block_cell v3 5 _ rfl
    have r6 := block_cell v3 6 _ rfl
    have r7 := block_cell v3 7 _ rfl
    have r8 := block_cell v3 8 _ rfl
    have g0 := block_free v2 0
    have g1 := block_free v2 1
    have g2 := block_free v2 2
    have g3 := block_free v2 3
    have g4 := block_free v2 4
    have g5 := block_free v2 5
    have g6 := block_free v2 6
    have g7 := block_free v2 7
    have g8 := block_free v2 8
    have c0 := block_cell v2 0 _ rfl
    have c1 := block_cell v2 1 _ rfl
    have c2 := block_cell v2 2 _ rfl
    have c3 := block_cell v2 3 _ rfl
    have c4 := block_cell v2 4 _ rfl
    have c5 := block_cell v2 5 _ rfl
    have c6 := block_cell v2 6 _ rfl
    have c7 := block_cell v2 7 _ rfl
    have c8 := block_cell v2 8 _ rfl
    have u1 := setsFrom_block (w.heap.size + 1) 24 [.int .i64 q, .string (y ++ ⟨#[47]⟩ ++ numText i), .int .i64 0, .bool a, .bool b, .int .i64 (d - hop), .int .i64 p, .int .i64 v, .int .i64 z] 0 W5 _ v2
    have u2 := setsFrom_below (w.heap.size + 1) (show w.heap.size ≤ w.heap.size + 1 by omega) [.int .i64 q, .string (y ++ ⟨#[47]⟩ ++ numText i), .int .i64 0, .bool a, .bool b, .int .i64 (d - hop), .int .i64 p, .int .i64 v, .int .i64 z] 0 W5 v4
    obtain ⟨W6, hW6⟩ : ∃ W6, setsFrom W5 (w.heap.size + 1) 0 [.int .i64 q, .string (y ++ ⟨#[47]⟩ ++ numText i), .int .i64 0, .bool a, .bool b, .int .i64 (d - hop), .int .i64 p, .int .i64 v, .int .i64 z] = W6 := ⟨_, rfl⟩
    rw [hW6] at u1 u2
    simp only [setsFrom, Nat.reduceAdd] at hW6
    simp only [arrFrom, Nat.reduceAdd, List.setIfInBounds_toArray, List.set_cons_zero, List.set_cons_succ] at u1
    have HU2 := Lib.hid u2
    have e0 := block_cell u1 0 _ rfl
    have e1 := block_cell u1 1 _ rfl
    have e2 := block_cell u1 2 _ rfl
    have e3 := block_cell u1 3 _ rfl
    have e4 := block_cell u1 4 _ rfl
    have e5 := block_cell u1 5 _ rfl
    have e6 := block_cell u1 6 _ rfl
    have e7 := block_cell u1 7 _ rfl
    have e8 := block_cell u1 8 _ rfl
    clear hv hg hb4 hsg hh htt cz y2 y3 y4 v2 v3 v4 u1 u2 ex2 ex3
    go_wp2_with fail
    exact bodyPost_ret (v := .agg #[.int .i64 q, .string (y ++ ⟨#[47]⟩ ++ numText i), .int .i64 0, .bool a, .bool b, .int .i64 (d - hop), .int .i64 p, .int .i64 v, .int .i64 z]) (by simp [results, Tryd.results36, go_sem, e0, e1, e2, e3, e4, e5, e6, e7, e8]) rfl ⟨rfl, HU2.out⟩
  · have hp0 : p = 0 := by
      rw [HPP.out]
      unfold shareAt
      rw [if_neg (by omega)]
    subst hp0
    have t1 : decide ((i : Int) < (k : Int)) = false := decide_eq_false (by omega)
    have t2 : decide ((i : Int) ≥ 0) = true := decide_eq_true (by omega)
    replace hik := hik.2
    have hik' : ¬ (i : Int) < (k : Int) := hik
    have r0 := block_cell y3 0 _ rfl
    have r1 := block_cell y3 1 _ rfl
    have r2 := block_cell y3 2 _ rfl
    have r3 := block_cell y3 3 _ rfl
    have r4 := block_cell y3 4 _ rfl
    have r5 := block_cell y3 5 _ rfl
    have r6 := block_cell y3 6 _ rfl
    have r7 := block_cell y3 7 _ rfl
    have r8 := block_cell y3 8 _ rfl
    have g0 := block_free y2 0
    have g1 := block_free y2 1
    have g2 := block_free y2 2
    have g3 := block_free y2 3
    have g4 := block_free y2 4
    have g5 := block_free y2 5
    have g6 := block_free y2 6
    have g7 := block_free y2 7
    have g8 := block_free y2 8
    have c0 := block_cell y2 0 _ rfl
    have c1 := block_cell y2 1 _ rfl
    have c2 := block_cell y2 2 _ rfl
    have c3 := block_cell y2 3 _ rfl
    have c4 := block_cell y2 4 _ rfl
    have c5 := block_cell y2 5 _ rfl
    have c6 := block_cell y2 6 _ rfl
    have c7 := block_cell y2 7 _ rfl
    have c8 := block_cell y2 8 _ rfl
    have u1 := setsFrom_block (w.heap.size + 1) 24 [.int .i64 q, .string (y ++ ⟨#[47]⟩ ++ numText i), .int .i64 0, .bool a, .bool b, .int .i64 (d - hop), .int .i64 0, .int .i64 v, .int .i64 z] 0 w4 _ y2
    have u2 := setsFrom_below (w.heap.size + 1) (show w.heap.size ≤ w.heap.size + 1 by omega) [.int .i64 q, .string (y ++ ⟨#[47]⟩ ++ numText i), .int .i64 0, .bool a, .bool b, .int .i64 (d - hop), .int .i64 0, .int .i64 v, .int .i64 z] 0 w4 y4
    obtain ⟨W6, hW6⟩ : ∃ W6, setsFrom w4 (w.heap.size + 1) 0 [.int .i64 q, .string (y ++ ⟨#[47]⟩ ++ numText i), .int .i64 0, .bool a, .bool b, .int .i64 (d - hop), .int .i64 0, .int .i64 v, .int .i64 z] = W6 := ⟨_, rfl⟩
    rw [hW6] at u1 u2
    simp only [setsFrom, Nat.reduceAdd] at hW6
    simp only [arrFrom, Nat.reduceAdd, List.setIfInBounds_toArray, List.set_cons_zero, List.set_cons_succ] at u1
    have HU2 := Lib.hid u2
    have e0 := block_cell u1 0 _ rfl
    have e1 := block_cell u1 1 _ rfl
    have e2 := block_cell u1 2 _ rfl
    have e3 := block_cell u1 3 _ rfl
    have e4 := block_cell u1 4 _ rfl
    have e5 := block_cell u1 5 _ rfl
    have e6 := block_cell u1 6 _ rfl
    have e7 := block_cell u1 7 _ rfl
    have e8 := block_cell u1 8 _ rfl
    clear hv hg hb4 y2 y3 y4 u1 u2
    go_wp2_with fail
    exact bodyPost_ret (v := .agg #[.int .i64 q, .string (y ++ ⟨#[47]⟩ ++ numText i), .int .i64 0, .bool a, .bool b, .int .i64 (d - hop), .int .i64 0, .int .i64 v, .int .i64 z]) (by simp [results, Tryd.results36, go_sem, e0, e1, e2, e3, e4, e5, e6, e7, e8]) rfl ⟨rfl, HU2.out⟩

  · have hp0 : p = 0 := by
      rw [HPP.out]
      unfold shareAt
      rw [if_neg (by omega)]
    subst hp0
    have t2 : decide ((i : Int) ≥ 0) = false := decide_eq_false (by omega)
    have r0 := block_cell y3 0 _ rfl
    have r1 := block_cell y3 1 _ rfl
    have r2 := block_cell y3 2 _ rfl
    have r3 := block_cell y3 3 _ rfl
    have r4 := block_cell y3 4 _ rfl
    have r5 := block_cell y3 5 _ rfl
    have r6 := block_cell y3 6 _ rfl
    have r7 := block_cell y3 7 _ rfl
    have r8 := block_cell y3 8 _ rfl
    have g0 := block_free y2 0
    have g1 := block_free y2 1
    have g2 := block_free y2 2
    have g3 := block_free y2 3
    have g4 := block_free y2 4
    have g5 := block_free y2 5
    have g6 := block_free y2 6
    have g7 := block_free y2 7
    have g8 := block_free y2 8
    have c0 := block_cell y2 0 _ rfl
    have c1 := block_cell y2 1 _ rfl
    have c2 := block_cell y2 2 _ rfl
    have c3 := block_cell y2 3 _ rfl
    have c4 := block_cell y2 4 _ rfl
    have c5 := block_cell y2 5 _ rfl
    have c6 := block_cell y2 6 _ rfl
    have c7 := block_cell y2 7 _ rfl
    have c8 := block_cell y2 8 _ rfl
    have u1 := setsFrom_block (w.heap.size + 1) 24 [.int .i64 q, .string (y ++ ⟨#[47]⟩ ++ numText i), .int .i64 0, .bool a, .bool b, .int .i64 (d - hop), .int .i64 0, .int .i64 v, .int .i64 z] 0 w4 _ y2
    have u2 := setsFrom_below (w.heap.size + 1) (show w.heap.size ≤ w.heap.size + 1 by omega) [.int .i64 q, .string (y ++ ⟨#[47]⟩ ++ numText i), .int .i64 0, .bool a, .bool b, .int .i64 (d - hop), .int .i64 0, .int .i64 v, .int .i64 z] 0 w4 y4
    obtain ⟨W6, hW6⟩ : ∃ W6, setsFrom w4 (w.heap.size + 1) 0 [.int .i64 q, .string (y ++ ⟨#[47]⟩ ++ numText i), .int .i64 0, .bool a, .bool b, .int .i64 (d - hop), .int .i64 0, .int .i64 v, .int .i64 z] = W6 := ⟨_, rfl⟩
    rw [hW6] at u1 u2
    simp only [setsFrom, Nat.reduceAdd] at hW6
    simp only [arrFrom, Nat.reduceAdd, List.setIfInBounds_toArray, List.set_cons_zero, List.set_cons_succ] at u1
    have HU2 := Lib.hid u2
    have e0 := block_cell u1 0 _ rfl
    have e1 := block_cell u1 1 _ rfl
    have e2 := block_cell u1 2 _ rfl
    have e3 := block_cell u1 3 _ rfl
    have e4 := block_cell u1 4 _ rfl
    have e5 := block_cell u1 5 _ rfl
    have e6 := block_cell u1 6 _ rfl
    have e7 := block_cell u1 7 _ rfl
    have e8 := block_cell u1 8 _ rfl
    clear hv hg hb4 y2 y3 y4 u1 u2
    go_wp2_with fail
    exact bodyPost_ret (v := .agg #[.int .i64 q, .string (y ++ ⟨#[47]⟩ ++ numText i), .int .i64 0, .bool a, .bool b, .int .i64 (d - hop), .int .i64 0, .int .i64 v, .int .i64 z]) (by simp [results, Tryd.results36, go_sem, e0, e1, e2, e3, e4, e5, e6, e7, e8]) rfl ⟨rfl, HU2.out⟩

end Go.Proofs.YtjollcacgnfabaaDoor
