/- CtxRight. -/
import Derived.Test.YtjollcacgnfabaaDoorC19
namespace Go.Proofs.YtjollcacgnfabaaDoor
open Go.RowKit
attribute [local go_sem ↓] Go.wp_at_zero Go.wp_at_succ

theorem Cx.Right.check_any {c : Cx} (h : c.Right) (hs : c.call.size ≤ 1000000) (ht : 0 ≤ c.try_ ∧ c.try_ ≤ 8) (hd : -2147483647 ≤ c.dl ∧ c.dl ≤ 4294967294) (hp : 0 ≤ c.purse ∧ c.purse ≤ 64) (w : World) :
    Calls Tryd.prog 13 #[cxV c] w fun e w' => e = .returned (.int .i64 0) ∧ Below w.heap.size w w' := by
  have k := YtjollcacgnfabaaDoor.check_any c hs w
  rw [h.check ht hd hp] at k
  exact k

set_option maxRecDepth 8000 in
set_option maxHeartbeats 4000000 in
theorem right_walk {w : World} {A : Option Addr} {k0 : Nat} {l : List Int} (h : ArgInts w A k0 l) (cap : Nat) (n kids i hop : Int) (hn : -9223372036854775808 ≤ n ∧ n ≤ 9223372036854775807) (hkk : -9223372036854775808 ≤ kids ∧ kids ≤ 9223372036854775807) (hi : -9223372036854775808 ≤ i ∧ i ≤ 9223372036854775807) (hhop : -9223372036854775808 ≤ hop ∧ hop ≤ 9223372036854775807) (hL : MaxLenAt w) :
    Calls Tryd.prog 5 #[.slice A k0 cap, .int .i64 n, .int .i64 kids, .int .i64 i, .int .i64 hop] w fun e w' => e = .returned (.bool true) ∧ Below w.heap.size w w' := by
  have HAT := Lib.hid (attempt_any h cap n hn)
  have HIN := Lib.hid (attOf_in l n)
  have HRI := Lib.hid (attOf_right l n)
  obtain ⟨c, hc⟩ : ∃ c, c = attOf l n := ⟨_, rfl⟩
  rw [← hc] at HAT HIN HRI
  obtain ⟨q, s, tr, b1, b2, d, u, v, z⟩ := c
  dsimp only [cxV, cxCells] at HAT HIN
  clear hc
  obtain ⟨n1, n2, n3, n4, n5, n6, n7⟩ := HIN.out
  have HK4 := Lib.hid (fun w => around_any kids 4 w hkk.1 hkk.2 (by decide) (by decide))
  obtain ⟨y0, y1⟩ := around_bd kids (show (1 : Int) ≤ 4 by decide)
  obtain ⟨y, hy⟩ : ∃ y, y = around kids 4 := ⟨_, rfl⟩
  rw [← hy] at HK4 y0 y1
  obtain ⟨m, hm⟩ : ∃ m : Nat, (m : Int) = 1 + y := ⟨(1 + y).toNat, by omega⟩
  have HI4 := Lib.hid (fun w => around_any i m w hi.1 hi.2 (by omega) (by omega))
  obtain ⟨i4, hi4, hi4b⟩ : ∃ i4 : Nat, (i4 : Int) = around i m ∧ i4 < 4 := by
    obtain ⟨x0, x1⟩ := around_bd i (show (1 : Int) ≤ m by omega)
    exact ⟨(around i m).toNat, by omega, by omega⟩
  rw [← hi4] at HI4
  have HH := Lib.hid (fun w => around_any hop 101 w hhop.1 hhop.2 (by decide) (by decide))
  obtain ⟨g0, g1⟩ := around_bd hop (show (1 : Int) ≤ 101 by decide)
  obtain ⟨g, hg⟩ : ∃ g, g = around hop 101 := ⟨_, rfl⟩
  rw [← hg] at HH g0 g1
  have HN8 := Lib.hid (fun w => around_any n 8 w hn.1 hn.2 (by decide) (by decide))
  obtain ⟨x0, x1⟩ := around_bd n (show (1 : Int) ≤ 8 by decide)
  obtain ⟨x, hx⟩ : ∃ x, x = around n 8 := ⟨_, rfl⟩
  rw [← hx] at HN8 x0 x1
  have HKD := Lib.hid (fun w => kid_any ⟨q, s, tr, b1, b2, d, u, v, z⟩ i4 m g (by dsimp only; omega) (by dsimp only; omega) (by omega) (by omega) (by dsimp only; omega) (by dsimp only; omega) (by omega) w)
  have hkr := HRI.out.kid (by dsimp only; omega) (show i4 ≤ 9 by omega) m g
  obtain ⟨ks, hks⟩ : ∃ ks, ks = (⟨q, s, tr, b1, b2, d, u, v, z⟩ : Cx).span ++ ⟨#[47]⟩ ++ digit i4 := ⟨_, rfl⟩
  have hksz : ks.size ≤ 33 := by
    have h1 := span_size ⟨q, s, tr, b1, b2, d, u, v, z⟩
    rw [hks, ByteArray.size_append, ByteArray.size_append]
    dsimp only at h1
    show _ + 1 + 1 ≤ 33
    omega
  obtain ⟨ku, hku⟩ : ∃ ku, ku = shareAt u m i4 := ⟨_, rfl⟩
  obtain ⟨d1, hd1⟩ : ∃ d1, d1 = d - g := ⟨_, rfl⟩
  have hkd : (⟨q, s, tr, b1, b2, d, u, v, z⟩ : Cx).kid i4 m g = ⟨q, ks, 0, b1, b2, d1, ku, v, z⟩ := by rw [hks, hku, hd1]; exact rfl
  rw [hkd] at HKD hkr
  obtain ⟨ku0, ku1⟩ := shareAt_bd u m i4 (by omega) (by omega) (by omega)
  rw [← hku] at ku0 ku1
  obtain ⟨ps, hps⟩ : ∃ ps, ps = ks ++ ⟨#[126]⟩ := ⟨_, rfl⟩
  have hpr := hkr.copy
  have hcp : (⟨q, ks, 0, b1, b2, d1, ku, v, z⟩ : Cx).copy = ⟨q, ps, 0, b1, true, d1, 0, v, z⟩ := by rw [hps]; exact rfl
  have HCO := Lib.hid (fun w => copy_any ⟨q, ks, 0, b1, b2, d1, ku, v, z⟩ (by dsimp only; omega) w)
  rw [hcp] at HCO hpr
  have htr : (⟨q, ks, 1 + x, b1, b2, d1, 0, v, z⟩ : Cx).Right := hkr.tried (1 + x) 0 (fun _ => rfl)
  have HTRY : Hid (∀ w, Calls Tryd.prog 24 #[cxV ⟨q, ks, 0, b1, b2, d1, ku, v, z⟩, .int .i64 (1 + x), .int .i64 0] w fun e w' => e = .returned (cxV ⟨q, ks, 1 + x, b1, b2, d1, 0, v, z⟩) ∧ Below w.heap.size w w') := fun w => try_any ⟨q, ks, 0, b1, b2, d1, ku, v, z⟩ (1 + x) 0 w
  have HCC := Lib.hid (fun w => HRI.out.check_any (by dsimp only; omega) (by dsimp only; omega) (by dsimp only; omega) (by dsimp only; omega) w)
  have HCK := Lib.hid (fun w => hkr.check_any (by dsimp only; omega) (by dsimp only; omega) (by dsimp only; omega) (by dsimp only; omega) w)
  have HCT := Lib.hid (fun w => htr.check_any (by dsimp only; omega) (by dsimp only; omega) (by dsimp only; omega) (by dsimp only; omega) w)
  have hpsz : ps.size ≤ 34 := by rw [hps, ByteArray.size_append]; show _ + 1 ≤ 34; omega
  have HCP := Lib.hid (fun w => hpr.check_any (by dsimp only; omega) (by dsimp only; omega) (by dsimp only; omega) (by dsimp only; omega) w)
  have HLV := Lib.hid (fun w' (hb : Below w.heap.size w w') => lives_any w' (hL.below hL.lt hb))
  have ga := IntWalk.i64_in (1 + y) (by omega)
  have gb := IntWalk.i64_in (1 + x) (by omega)
  have c1 : ¬ d < d1 := by omega
  have c2 : ¬ u < ku := by omega
  have c3 : ¬ u < 0 := by omega
  dsimp only [cxV, cxCells] at HKD HTRY HCO HCC HCK HCT HCP
  have HMX := Lib.hid hm
  clear hy hi4 hg hx hkr hks hksz hku hd1 hkd hps hpr hcp htr hpsz HIN HRI n1 n2 n3 n4 n5 n6 n7 hL h hn hkk hi hhop hm ku0 ku1
  go_enter Tryd.func5, Tryd.ntmps5
  go_wp2_with fail
  refine HAT.out.mono ?_
  rintro e w1 ⟨rfl, hb1⟩
  have S1 : Hid (St w w1 []) := ⟨(fun p hp => by cases hp), hb1⟩
  have S2 := Lib.hid (S1.out.push ⟨q, s, tr, b1, b2, d, u, v, z⟩)
  dsimp only [cxCells] at S2
  clear hb1 S1
  go_wp2_with fail
  refine (HK4.out _).mono ?_
  rintro e wz ⟨rfl, rfl⟩
  go_wp2_with fail
  obtain ⟨W2, hW2⟩ : ∃ W2, w1.alloc (.cells #[.int .i64 q, .string s, .int .i64 tr, .bool b1, .bool b2, .int .i64 d, .int .i64 u, .int .i64 v, .int .i64 z] 24) = W2 := ⟨_, rfl⟩
  rw [hW2] at S2 ⊢
  clear hW2
  try rw [← HMX.out]
  have m := S2.out.boxes (w1.heap.size, ⟨q, s, tr, b1, b2, d, u, v, z⟩) (by simp)
  dsimp only [cxCells] at m
  have r0 := block_cell m 0 _ rfl
  have r1 := block_cell m 1 _ rfl
  have r2 := block_cell m 2 _ rfl
  have r3 := block_cell m 3 _ rfl
  have r4 := block_cell m 4 _ rfl
  have r5 := block_cell m 5 _ rfl
  have r6 := block_cell m 6 _ rfl
  have r7 := block_cell m 7 _ rfl
  have r8 := block_cell m 8 _ rfl
  clear m
  go_cut [13] from 25 to 32 (fun vv wx => ∃ B, vv = .pointer (some ⟨B, 0, none⟩) ∧ St w wx ((B, ⟨q, ks, 0, b1, b2, d1, ku, v, z⟩) :: [(w1.heap.size, ⟨q, s, tr, b1, b2, d, u, v, z⟩)]))
  case first =>
    refine wp_region_split_held 9 (fun w' => w'.cell? ⟨w1.heap.size, 0, none⟩ = some (.int .i64 q) ∧ w'.cell? ⟨w1.heap.size, 1, none⟩ = some (.string s) ∧ w'.cell? ⟨w1.heap.size, 2, none⟩ = some (.int .i64 tr) ∧ w'.cell? ⟨w1.heap.size, 3, none⟩ = some (.bool b1) ∧ w'.cell? ⟨w1.heap.size, 4, none⟩ = some (.bool b2) ∧ w'.cell? ⟨w1.heap.size, 5, none⟩ = some (.int .i64 d) ∧ w'.cell? ⟨w1.heap.size, 6, none⟩ = some (.int .i64 u) ∧ w'.cell? ⟨w1.heap.size, 7, none⟩ = some (.int .i64 v) ∧ w'.cell? ⟨w1.heap.size, 8, none⟩ = some (.int .i64 z)) (by kernel_rfl) (by kernel_rfl) ⟨r0, r1, r2, r3, r4, r5, r6, r7, r8⟩ (fun K0 hK0 hHeld => ?_)
    simp only [List.take_succ_cons, List.take_zero]
    refine wpAnyH_take (i := 0) (v := ?_) rfl (by kernel_rfl) (by kernel_rfl) (by kernel_rfl) (fun _ _ _ h => h) (Or.inl ⟨by kernel_rfl, ?_⟩) (by assumption) ?_
    rotate_left
    · (intro w hSw; (try dsimp only at hSw); go_simp; (try rw [if_neg (by (try simp only [ByteArray.size_append]); omega)]); (try with_reducible rfl))
    try simp only [Act.put]
    refine wpAnyH_take (i := 1) (v := ?_) rfl (by kernel_rfl) (by kernel_rfl) (by kernel_rfl) (fun _ _ _ h => h) (Or.inl ⟨by kernel_rfl, ?_⟩) (by assumption) ?_
    rotate_left
    · (intro w hSw; (try dsimp only at hSw); go_simp; (try rw [if_neg (by (try simp only [ByteArray.size_append]); omega)]); (try with_reducible rfl))
    try simp only [Act.put]
    refine wpAnyH_take (i := 2) (v := ?_) rfl (by kernel_rfl) (by kernel_rfl) (by kernel_rfl) (fun _ _ _ h => h) (Or.inl ⟨by kernel_rfl, ?_⟩) (by assumption) ?_
    rotate_left
    · (intro w hSw; (try dsimp only at hSw); go_simp; (try rw [if_neg (by (try simp only [ByteArray.size_append]); omega)]); (try with_reducible rfl))
    try simp only [Act.put]
    refine wpAnyH_take (i := 4) (v := ?_) rfl (by kernel_rfl) (by kernel_rfl) (by kernel_rfl) (fun _ _ _ h => h) (Or.inl ⟨by kernel_rfl, ?_⟩) (by assumption) ?_
    rotate_left
    · (intro w hSw; (try dsimp only at hSw); go_simp; (try rw [if_neg (by (try simp only [ByteArray.size_append]); omega)]); (try with_reducible rfl))
    try simp only [Act.put]
    refine wpAnyH_take (i := 5) (v := ?_) rfl (by kernel_rfl) (by kernel_rfl) (by kernel_rfl) (fun _ _ _ h => h) (Or.inl ⟨by kernel_rfl, ?_⟩) (by assumption) ?_
    rotate_left
    · (intro w hSw; (try dsimp only at hSw); go_simp; (try rw [if_neg (by (try simp only [ByteArray.size_append]); omega)]); (try with_reducible rfl))
    try simp only [Act.put]
    refine wpAnyH_ready (rs := [3, 8]) (by kernel_rfl) (by simp) ?_
    refine AllReadyH.cons rfl (fun K hK => ?_) (AllReadyH.cons rfl (fun K hK => ?_) AllReadyH.nil)
    · go_simp
      refine (HI4.out _).mono ?_
      rintro e wq ⟨rfl, rfl⟩
      refine hK.out _ _ hHeld (fun hHeld => ?_)
      clear hK K
      try simp only [Act.put]
      refine wpAnyH_ready (rs := [6, 8]) (by kernel_rfl) (by simp) ?_
      refine AllReadyH.cons rfl (fun K hK => ?_) (AllReadyH.cons rfl (fun K hK => ?_) AllReadyH.nil)
      · go_simp
        refine (HH.out _).mono ?_
        rintro e wq ⟨rfl, rfl⟩
        refine hK.out _ _ hHeld (fun hHeld => ?_)
        clear hK K
        try simp only [Act.put]
        refine wpAnyH_ready (rs := [7, 8]) (by kernel_rfl) (by simp) ?_
        refine AllReadyH.cons rfl (fun K hK => ?_) (AllReadyH.cons rfl (fun K hK => ?_) AllReadyH.nil)
        · go_simp
          refine (HKD.out _).mono ?_
          rintro e wk ⟨rfl, hbk⟩
          refine hK.out _ _ ⟨bkeep hbk hHeld.1, bkeep hbk hHeld.2.1, bkeep hbk hHeld.2.2.1, bkeep hbk hHeld.2.2.2.1, bkeep hbk hHeld.2.2.2.2.1, bkeep hbk hHeld.2.2.2.2.2.1, bkeep hbk hHeld.2.2.2.2.2.2.1, bkeep hbk hHeld.2.2.2.2.2.2.2.1, bkeep hbk hHeld.2.2.2.2.2.2.2.2⟩ (fun hHeld => ?_)
          clear hK K
          try simp only [Act.put]
          refine wpAnyH_ready (rs := [8]) (by kernel_rfl) (by simp) ?_
          refine AllReadyH.cons rfl (fun K hK => ?_) AllReadyH.nil
          go_simp
          refine hK.out _ _ ⟨bkeep ((Below.refl _ _).alloc (Nat.le_refl _) _) hHeld.1, bkeep ((Below.refl _ _).alloc (Nat.le_refl _) _) hHeld.2.1, bkeep ((Below.refl _ _).alloc (Nat.le_refl _) _) hHeld.2.2.1, bkeep ((Below.refl _ _).alloc (Nat.le_refl _) _) hHeld.2.2.2.1, bkeep ((Below.refl _ _).alloc (Nat.le_refl _) _) hHeld.2.2.2.2.1, bkeep ((Below.refl _ _).alloc (Nat.le_refl _) _) hHeld.2.2.2.2.2.1, bkeep ((Below.refl _ _).alloc (Nat.le_refl _) _) hHeld.2.2.2.2.2.2.1, bkeep ((Below.refl _ _).alloc (Nat.le_refl _) _) hHeld.2.2.2.2.2.2.2.1, bkeep ((Below.refl _ _).alloc (Nat.le_refl _) _) hHeld.2.2.2.2.2.2.2.2⟩ (fun hHeld => ?_)
          clear hK K
          try simp only [Act.put]
          refine wpAnyH_done (by kernel_rfl) ?_ _
          simp only [Exit.then]
          refine hK0 _ _ ?_
          clear hK0 K0 hHeld
          try simp only [Act.put]
          go_wp2_with fail
          go_meet
          exact ⟨_, rfl, (S2.out.call (bdrew hbk)).push ⟨q, ks, 0, b1, b2, d1, ku, v, z⟩⟩
        · go_simp
          have hbn : Below W2.heap.size W2 ((W2.alloc (.cells #[.int .i64 0, .string ⟨#[]⟩, .int .i64 0, .bool false, .bool false, .int .i64 0, .int .i64 0, .int .i64 0, .int .i64 0] 24)).drew) := ((Below.refl _ _).alloc (Nat.le_refl _) _).drew
          refine hK.out _ _ ⟨bkeep ((Below.refl _ _).alloc (Nat.le_refl _) _) hHeld.1, bkeep ((Below.refl _ _).alloc (Nat.le_refl _) _) hHeld.2.1, bkeep ((Below.refl _ _).alloc (Nat.le_refl _) _) hHeld.2.2.1, bkeep ((Below.refl _ _).alloc (Nat.le_refl _) _) hHeld.2.2.2.1, bkeep ((Below.refl _ _).alloc (Nat.le_refl _) _) hHeld.2.2.2.2.1, bkeep ((Below.refl _ _).alloc (Nat.le_refl _) _) hHeld.2.2.2.2.2.1, bkeep ((Below.refl _ _).alloc (Nat.le_refl _) _) hHeld.2.2.2.2.2.2.1, bkeep ((Below.refl _ _).alloc (Nat.le_refl _) _) hHeld.2.2.2.2.2.2.2.1, bkeep ((Below.refl _ _).alloc (Nat.le_refl _) _) hHeld.2.2.2.2.2.2.2.2⟩ (fun hHeld => ?_)
          clear hK K
          try simp only [Act.put]
          refine wpAnyH_ready (rs := [7]) (by kernel_rfl) (by simp) ?_
          refine AllReadyH.cons rfl (fun K hK => ?_) AllReadyH.nil
          go_simp
          refine (HKD.out _).mono ?_
          rintro e wk ⟨rfl, hbk⟩
          have hbb := btrans hbn hbk
          have kN : wk.heap[W2.heap.size]? = some (.cells #[.int .i64 0, .string ⟨#[]⟩, .int .i64 0, .bool false, .bool false, .int .i64 0, .int .i64 0, .int .i64 0, .int .i64 0] 24 (0, 0)) := (hbk.block W2.heap.size (by simp)).trans (heap_alloc_new W2 _)
          refine hK.out _ _ ⟨bkeep hbk hHeld.1, bkeep hbk hHeld.2.1, bkeep hbk hHeld.2.2.1, bkeep hbk hHeld.2.2.2.1, bkeep hbk hHeld.2.2.2.2.1, bkeep hbk hHeld.2.2.2.2.2.1, bkeep hbk hHeld.2.2.2.2.2.2.1, bkeep hbk hHeld.2.2.2.2.2.2.2.1, bkeep hbk hHeld.2.2.2.2.2.2.2.2⟩ (fun hHeld => ?_)
          clear hK K
          try simp only [Act.put]
          refine wpAnyH_done (by kernel_rfl) ?_ _
          simp only [Exit.then]
          refine hK0 _ _ ?_
          clear hK0 K0 hHeld
          try simp only [Act.put]
          obtain ⟨W6, hW6, hst6⟩ := S2.out.fill hbb kN ⟨q, ks, 0, b1, b2, d1, ku, v, z⟩
          simp only [cxCells, setsFrom, Nat.reduceAdd] at hW6
          have HST6 := Lib.hid hst6
          have x0 := block_cell kN 0 _ rfl
          have x1 := block_cell kN 1 _ rfl
          have x2 := block_cell kN 2 _ rfl
          have x3 := block_cell kN 3 _ rfl
          have x4 := block_cell kN 4 _ rfl
          have x5 := block_cell kN 5 _ rfl
          have x6 := block_cell kN 6 _ rfl
          have x7 := block_cell kN 7 _ rfl
          have x8 := block_cell kN 8 _ rfl
          have f0 := block_free kN 0
          have f1 := block_free kN 1
          have f2 := block_free kN 2
          have f3 := block_free kN 3
          have f4 := block_free kN 4
          have f5 := block_free kN 5
          have f6 := block_free kN 6
          have f7 := block_free kN 7
          have f8 := block_free kN 8
          clear kN hst6 hbb hbk hbn
          go_wp2_with fail
          go_meet
          exact ⟨_, rfl, HST6.out⟩
      · go_simp
        have hbn : Below W2.heap.size W2 ((W2.alloc (.cells #[.int .i64 0, .string ⟨#[]⟩, .int .i64 0, .bool false, .bool false, .int .i64 0, .int .i64 0, .int .i64 0, .int .i64 0] 24)).drew) := ((Below.refl _ _).alloc (Nat.le_refl _) _).drew
        refine hK.out _ _ ⟨bkeep ((Below.refl _ _).alloc (Nat.le_refl _) _) hHeld.1, bkeep ((Below.refl _ _).alloc (Nat.le_refl _) _) hHeld.2.1, bkeep ((Below.refl _ _).alloc (Nat.le_refl _) _) hHeld.2.2.1, bkeep ((Below.refl _ _).alloc (Nat.le_refl _) _) hHeld.2.2.2.1, bkeep ((Below.refl _ _).alloc (Nat.le_refl _) _) hHeld.2.2.2.2.1, bkeep ((Below.refl _ _).alloc (Nat.le_refl _) _) hHeld.2.2.2.2.2.1, bkeep ((Below.refl _ _).alloc (Nat.le_refl _) _) hHeld.2.2.2.2.2.2.1, bkeep ((Below.refl _ _).alloc (Nat.le_refl _) _) hHeld.2.2.2.2.2.2.2.1, bkeep ((Below.refl _ _).alloc (Nat.le_refl _) _) hHeld.2.2.2.2.2.2.2.2⟩ (fun hHeld => ?_)
        clear hK K
        try simp only [Act.put]
        refine wpAnyH_ready (rs := [6]) (by kernel_rfl) (by simp) ?_
        refine AllReadyH.cons rfl (fun K hK => ?_) AllReadyH.nil
        go_simp
        refine (HH.out _).mono ?_
        rintro e wq ⟨rfl, rfl⟩
        refine hK.out _ _ hHeld (fun hHeld => ?_)
        clear hK K
        try simp only [Act.put]
        refine wpAnyH_ready (rs := [7]) (by kernel_rfl) (by simp) ?_
        refine AllReadyH.cons rfl (fun K hK => ?_) AllReadyH.nil
        go_simp
        refine (HKD.out _).mono ?_
        rintro e wk ⟨rfl, hbk⟩
        have hbb := btrans hbn hbk
        have kN : wk.heap[W2.heap.size]? = some (.cells #[.int .i64 0, .string ⟨#[]⟩, .int .i64 0, .bool false, .bool false, .int .i64 0, .int .i64 0, .int .i64 0, .int .i64 0] 24 (0, 0)) := (hbk.block W2.heap.size (by simp)).trans (heap_alloc_new W2 _)
        refine hK.out _ _ ⟨bkeep hbk hHeld.1, bkeep hbk hHeld.2.1, bkeep hbk hHeld.2.2.1, bkeep hbk hHeld.2.2.2.1, bkeep hbk hHeld.2.2.2.2.1, bkeep hbk hHeld.2.2.2.2.2.1, bkeep hbk hHeld.2.2.2.2.2.2.1, bkeep hbk hHeld.2.2.2.2.2.2.2.1, bkeep hbk hHeld.2.2.2.2.2.2.2.2⟩ (fun hHeld => ?_)
        clear hK K
        try simp only [Act.put]
        refine wpAnyH_done (by kernel_rfl) ?_ _
        simp only [Exit.then]
        refine hK0 _ _ ?_
        clear hK0 K0 hHeld
        try simp only [Act.put]
        obtain ⟨W6, hW6, hst6⟩ := S2.out.fill hbb kN ⟨q, ks, 0, b1, b2, d1, ku, v, z⟩
        simp only [cxCells, setsFrom, Nat.reduceAdd] at hW6
        have HST6 := Lib.hid hst6
        have x0 := block_cell kN 0 _ rfl
        have x1 := block_cell kN 1 _ rfl
        have x2 := block_cell kN 2 _ rfl
        have x3 := block_cell kN 3 _ rfl
        have x4 := block_cell kN 4 _ rfl
        have x5 := block_cell kN 5 _ rfl
        have x6 := block_cell kN 6 _ rfl
        have x7 := block_cell kN 7 _ rfl
        have x8 := block_cell kN 8 _ rfl
        have f0 := block_free kN 0
        have f1 := block_free kN 1
        have f2 := block_free kN 2
        have f3 := block_free kN 3
        have f4 := block_free kN 4
        have f5 := block_free kN 5
        have f6 := block_free kN 6
        have f7 := block_free kN 7
        have f8 := block_free kN 8
        clear kN hst6 hbb hbk hbn
        go_wp2_with fail
        go_meet
        exact ⟨_, rfl, HST6.out⟩
    · go_simp
      have hbn : Below W2.heap.size W2 ((W2.alloc (.cells #[.int .i64 0, .string ⟨#[]⟩, .int .i64 0, .bool false, .bool false, .int .i64 0, .int .i64 0, .int .i64 0, .int .i64 0] 24)).drew) := ((Below.refl _ _).alloc (Nat.le_refl _) _).drew
      refine hK.out _ _ ⟨bkeep ((Below.refl _ _).alloc (Nat.le_refl _) _) hHeld.1, bkeep ((Below.refl _ _).alloc (Nat.le_refl _) _) hHeld.2.1, bkeep ((Below.refl _ _).alloc (Nat.le_refl _) _) hHeld.2.2.1, bkeep ((Below.refl _ _).alloc (Nat.le_refl _) _) hHeld.2.2.2.1, bkeep ((Below.refl _ _).alloc (Nat.le_refl _) _) hHeld.2.2.2.2.1, bkeep ((Below.refl _ _).alloc (Nat.le_refl _) _) hHeld.2.2.2.2.2.1, bkeep ((Below.refl _ _).alloc (Nat.le_refl _) _) hHeld.2.2.2.2.2.2.1, bkeep ((Below.refl _ _).alloc (Nat.le_refl _) _) hHeld.2.2.2.2.2.2.2.1, bkeep ((Below.refl _ _).alloc (Nat.le_refl _) _) hHeld.2.2.2.2.2.2.2.2⟩ (fun hHeld => ?_)
      clear hK K
      try simp only [Act.put]
      refine wpAnyH_ready (rs := [3]) (by kernel_rfl) (by simp) ?_
      refine AllReadyH.cons rfl (fun K hK => ?_) AllReadyH.nil
      go_simp
      refine (HI4.out _).mono ?_
      rintro e wq ⟨rfl, rfl⟩
      refine hK.out _ _ hHeld (fun hHeld => ?_)
      clear hK K
      try simp only [Act.put]
      refine wpAnyH_ready (rs := [6]) (by kernel_rfl) (by simp) ?_
      refine AllReadyH.cons rfl (fun K hK => ?_) AllReadyH.nil
      go_simp
      refine (HH.out _).mono ?_
      rintro e wq ⟨rfl, rfl⟩
      refine hK.out _ _ hHeld (fun hHeld => ?_)
      clear hK K
      try simp only [Act.put]
      refine wpAnyH_ready (rs := [7]) (by kernel_rfl) (by simp) ?_
      refine AllReadyH.cons rfl (fun K hK => ?_) AllReadyH.nil
      go_simp
      refine (HKD.out _).mono ?_
      rintro e wk ⟨rfl, hbk⟩
      have hbb := btrans hbn hbk
      have kN : wk.heap[W2.heap.size]? = some (.cells #[.int .i64 0, .string ⟨#[]⟩, .int .i64 0, .bool false, .bool false, .int .i64 0, .int .i64 0, .int .i64 0, .int .i64 0] 24 (0, 0)) := (hbk.block W2.heap.size (by simp)).trans (heap_alloc_new W2 _)
      refine hK.out _ _ ⟨bkeep hbk hHeld.1, bkeep hbk hHeld.2.1, bkeep hbk hHeld.2.2.1, bkeep hbk hHeld.2.2.2.1, bkeep hbk hHeld.2.2.2.2.1, bkeep hbk hHeld.2.2.2.2.2.1, bkeep hbk hHeld.2.2.2.2.2.2.1, bkeep hbk hHeld.2.2.2.2.2.2.2.1, bkeep hbk hHeld.2.2.2.2.2.2.2.2⟩ (fun hHeld => ?_)
      clear hK K
      try simp only [Act.put]
      refine wpAnyH_done (by kernel_rfl) ?_ _
      simp only [Exit.then]
      refine hK0 _ _ ?_
      clear hK0 K0 hHeld
      try simp only [Act.put]
      obtain ⟨W6, hW6, hst6⟩ := S2.out.fill hbb kN ⟨q, ks, 0, b1, b2, d1, ku, v, z⟩
      simp only [cxCells, setsFrom, Nat.reduceAdd] at hW6
      have HST6 := Lib.hid hst6
      have x0 := block_cell kN 0 _ rfl
      have x1 := block_cell kN 1 _ rfl
      have x2 := block_cell kN 2 _ rfl
      have x3 := block_cell kN 3 _ rfl
      have x4 := block_cell kN 4 _ rfl
      have x5 := block_cell kN 5 _ rfl
      have x6 := block_cell kN 6 _ rfl
      have x7 := block_cell kN 7 _ rfl
      have x8 := block_cell kN 8 _ rfl
      have f0 := block_free kN 0
      have f1 := block_free kN 1
      have f2 := block_free kN 2
      have f3 := block_free kN 3
      have f4 := block_free kN 4
      have f5 := block_free kN 5
      have f6 := block_free kN 6
      have f7 := block_free kN 7
      have f8 := block_free kN 8
      clear kN hst6 hbb hbk hbn
      go_wp2_with fail
      go_meet
      exact ⟨_, rfl, HST6.out⟩
  case rest =>
    obtain ⟨B1, rfl, hst⟩ := hcut
    have S3 := Lib.hid hst
    clear hst S2
    clear r0 r1 r2 r3 r4 r5 r6 r7 r8
    have m := S3.out.boxes (B1, ⟨q, ks, 0, b1, b2, d1, ku, v, z⟩) (by simp)
    dsimp only [cxCells] at m
    have r0 := block_cell m 0 _ rfl
    have r1 := block_cell m 1 _ rfl
    have r2 := block_cell m 2 _ rfl
    have r3 := block_cell m 3 _ rfl
    have r4 := block_cell m 4 _ rfl
    have r5 := block_cell m 5 _ rfl
    have r6 := block_cell m 6 _ rfl
    have r7 := block_cell m 7 _ rfl
    have r8 := block_cell m 8 _ rfl
    clear m
    go_wp2_with fail
    go_cut [14] from 33 to 37 (fun vv wx => ∃ B, vv = .pointer (some ⟨B, 0, none⟩) ∧ St w wx ((B, ⟨q, ks, 1 + x, b1, b2, d1, 0, v, z⟩) :: [(B1, ⟨q, ks, 0, b1, b2, d1, ku, v, z⟩), (w1.heap.size, ⟨q, s, tr, b1, b2, d, u, v, z⟩)]))
    case first =>
      refine wp_region_split_held 6 (fun w' => w'.cell? ⟨B1, 0, none⟩ = some (.int .i64 q) ∧ w'.cell? ⟨B1, 1, none⟩ = some (.string ks) ∧ w'.cell? ⟨B1, 2, none⟩ = some (.int .i64 0) ∧ w'.cell? ⟨B1, 3, none⟩ = some (.bool b1) ∧ w'.cell? ⟨B1, 4, none⟩ = some (.bool b2) ∧ w'.cell? ⟨B1, 5, none⟩ = some (.int .i64 d1) ∧ w'.cell? ⟨B1, 6, none⟩ = some (.int .i64 ku) ∧ w'.cell? ⟨B1, 7, none⟩ = some (.int .i64 v) ∧ w'.cell? ⟨B1, 8, none⟩ = some (.int .i64 z)) (by kernel_rfl) (by kernel_rfl) ⟨r0, r1, r2, r3, r4, r5, r6, r7, r8⟩ (fun K0 hK0 hHeld => ?_)
      simp only [List.take_succ_cons, List.take_zero]
      refine wpAnyH_take (i := 0) (v := ?_) rfl (by kernel_rfl) (by kernel_rfl) (by kernel_rfl) (fun _ _ _ h => h) (Or.inl ⟨by kernel_rfl, ?_⟩) (by assumption) ?_
      rotate_left
      · (intro w hSw; (try dsimp only at hSw); go_simp; (try rw [if_neg (by (try simp only [ByteArray.size_append]); omega)]); (try with_reducible rfl))
      try simp only [Act.put]
      refine wpAnyH_take (i := 1) (v := ?_) rfl (by kernel_rfl) (by kernel_rfl) (by kernel_rfl) (fun _ _ _ h => h) (Or.inl ⟨by kernel_rfl, ?_⟩) (by assumption) ?_
      rotate_left
      · (intro w hSw; (try dsimp only at hSw); go_simp; (try rw [if_neg (by (try simp only [ByteArray.size_append]); omega)]); (try with_reducible rfl))
      try simp only [Act.put]
      refine wpAnyH_ready (rs := [2, 5]) (by kernel_rfl) (by simp) ?_
      refine AllReadyH.cons rfl (fun K hK => ?_) (AllReadyH.cons rfl (fun K hK => ?_) AllReadyH.nil)
      · go_simp
        refine (HN8.out _).mono ?_
        rintro e wq ⟨rfl, rfl⟩
        refine hK.out _ _ hHeld (fun hHeld => ?_)
        clear hK K
        try simp only [Act.put]
        refine wpAnyH_take (i := 3) (v := ?_) rfl (by kernel_rfl) (by kernel_rfl) (by kernel_rfl) (fun _ _ _ h => h) (Or.inl ⟨by kernel_rfl, ?_⟩) (by assumption) ?_
        rotate_left
        · (intro w hSw; (try dsimp only at hSw); go_simp; (try rw [if_neg (by (try simp only [ByteArray.size_append]); omega)]); (try with_reducible rfl))
        try simp only [Act.put]
        refine wpAnyH_ready (rs := [4, 5]) (by kernel_rfl) (by simp) ?_
        refine AllReadyH.cons rfl (fun K hK => ?_) (AllReadyH.cons rfl (fun K hK => ?_) AllReadyH.nil)
        · go_simp
          refine (HTRY.out _).mono ?_
          rintro e wk ⟨rfl, hbk⟩
          refine hK.out _ _ ⟨bkeep hbk hHeld.1, bkeep hbk hHeld.2.1, bkeep hbk hHeld.2.2.1, bkeep hbk hHeld.2.2.2.1, bkeep hbk hHeld.2.2.2.2.1, bkeep hbk hHeld.2.2.2.2.2.1, bkeep hbk hHeld.2.2.2.2.2.2.1, bkeep hbk hHeld.2.2.2.2.2.2.2.1, bkeep hbk hHeld.2.2.2.2.2.2.2.2⟩ (fun hHeld => ?_)
          clear hK K
          try simp only [Act.put]
          refine wpAnyH_ready (rs := [5]) (by kernel_rfl) (by simp) ?_
          refine AllReadyH.cons rfl (fun K hK => ?_) AllReadyH.nil
          go_simp
          refine hK.out _ _ ⟨bkeep ((Below.refl _ _).alloc (Nat.le_refl _) _) hHeld.1, bkeep ((Below.refl _ _).alloc (Nat.le_refl _) _) hHeld.2.1, bkeep ((Below.refl _ _).alloc (Nat.le_refl _) _) hHeld.2.2.1, bkeep ((Below.refl _ _).alloc (Nat.le_refl _) _) hHeld.2.2.2.1, bkeep ((Below.refl _ _).alloc (Nat.le_refl _) _) hHeld.2.2.2.2.1, bkeep ((Below.refl _ _).alloc (Nat.le_refl _) _) hHeld.2.2.2.2.2.1, bkeep ((Below.refl _ _).alloc (Nat.le_refl _) _) hHeld.2.2.2.2.2.2.1, bkeep ((Below.refl _ _).alloc (Nat.le_refl _) _) hHeld.2.2.2.2.2.2.2.1, bkeep ((Below.refl _ _).alloc (Nat.le_refl _) _) hHeld.2.2.2.2.2.2.2.2⟩ (fun hHeld => ?_)
          clear hK K
          try simp only [Act.put]
          refine wpAnyH_done (by kernel_rfl) ?_ _
          simp only [Exit.then]
          refine hK0 _ _ ?_
          clear hK0 K0 hHeld
          try simp only [Act.put]
          go_wp2_with fail
          go_meet
          exact ⟨_, rfl, (S3.out.call (bdrew hbk)).push ⟨q, ks, 1 + x, b1, b2, d1, 0, v, z⟩⟩
        · go_simp
          have hbn : Below wc.heap.size wc ((wc.alloc (.cells #[.int .i64 0, .string ⟨#[]⟩, .int .i64 0, .bool false, .bool false, .int .i64 0, .int .i64 0, .int .i64 0, .int .i64 0] 24)).drew) := ((Below.refl _ _).alloc (Nat.le_refl _) _).drew
          refine hK.out _ _ ⟨bkeep ((Below.refl _ _).alloc (Nat.le_refl _) _) hHeld.1, bkeep ((Below.refl _ _).alloc (Nat.le_refl _) _) hHeld.2.1, bkeep ((Below.refl _ _).alloc (Nat.le_refl _) _) hHeld.2.2.1, bkeep ((Below.refl _ _).alloc (Nat.le_refl _) _) hHeld.2.2.2.1, bkeep ((Below.refl _ _).alloc (Nat.le_refl _) _) hHeld.2.2.2.2.1, bkeep ((Below.refl _ _).alloc (Nat.le_refl _) _) hHeld.2.2.2.2.2.1, bkeep ((Below.refl _ _).alloc (Nat.le_refl _) _) hHeld.2.2.2.2.2.2.1, bkeep ((Below.refl _ _).alloc (Nat.le_refl _) _) hHeld.2.2.2.2.2.2.2.1, bkeep ((Below.refl _ _).alloc (Nat.le_refl _) _) hHeld.2.2.2.2.2.2.2.2⟩ (fun hHeld => ?_)
          clear hK K
          try simp only [Act.put]
          refine wpAnyH_ready (rs := [4]) (by kernel_rfl) (by simp) ?_
          refine AllReadyH.cons rfl (fun K hK => ?_) AllReadyH.nil
          go_simp
          refine (HTRY.out _).mono ?_
          rintro e wk ⟨rfl, hbk⟩
          have hbb := btrans hbn hbk
          have kN : wk.heap[wc.heap.size]? = some (.cells #[.int .i64 0, .string ⟨#[]⟩, .int .i64 0, .bool false, .bool false, .int .i64 0, .int .i64 0, .int .i64 0, .int .i64 0] 24 (0, 0)) := (hbk.block wc.heap.size (by simp)).trans (heap_alloc_new wc _)
          refine hK.out _ _ ⟨bkeep hbk hHeld.1, bkeep hbk hHeld.2.1, bkeep hbk hHeld.2.2.1, bkeep hbk hHeld.2.2.2.1, bkeep hbk hHeld.2.2.2.2.1, bkeep hbk hHeld.2.2.2.2.2.1, bkeep hbk hHeld.2.2.2.2.2.2.1, bkeep hbk hHeld.2.2.2.2.2.2.2.1, bkeep hbk hHeld.2.2.2.2.2.2.2.2⟩ (fun hHeld => ?_)
          clear hK K
          try simp only [Act.put]
          refine wpAnyH_done (by kernel_rfl) ?_ _
          simp only [Exit.then]
          refine hK0 _ _ ?_
          clear hK0 K0 hHeld
          try simp only [Act.put]
          obtain ⟨W6, hW6, hst6⟩ := S3.out.fill hbb kN ⟨q, ks, 1 + x, b1, b2, d1, 0, v, z⟩
          simp only [cxCells, setsFrom, Nat.reduceAdd] at hW6
          have HST6 := Lib.hid hst6
          have x0 := block_cell kN 0 _ rfl
          have x1 := block_cell kN 1 _ rfl
          have x2 := block_cell kN 2 _ rfl
          have x3 := block_cell kN 3 _ rfl
          have x4 := block_cell kN 4 _ rfl
          have x5 := block_cell kN 5 _ rfl
          have x6 := block_cell kN 6 _ rfl
          have x7 := block_cell kN 7 _ rfl
          have x8 := block_cell kN 8 _ rfl
          have f0 := block_free kN 0
          have f1 := block_free kN 1
          have f2 := block_free kN 2
          have f3 := block_free kN 3
          have f4 := block_free kN 4
          have f5 := block_free kN 5
          have f6 := block_free kN 6
          have f7 := block_free kN 7
          have f8 := block_free kN 8
          clear kN hst6 hbb hbk hbn
          go_wp2_with fail
          go_meet
          exact ⟨_, rfl, HST6.out⟩
      · go_simp
        have hbn : Below wc.heap.size wc ((wc.alloc (.cells #[.int .i64 0, .string ⟨#[]⟩, .int .i64 0, .bool false, .bool false, .int .i64 0, .int .i64 0, .int .i64 0, .int .i64 0] 24)).drew) := ((Below.refl _ _).alloc (Nat.le_refl _) _).drew
        refine hK.out _ _ ⟨bkeep ((Below.refl _ _).alloc (Nat.le_refl _) _) hHeld.1, bkeep ((Below.refl _ _).alloc (Nat.le_refl _) _) hHeld.2.1, bkeep ((Below.refl _ _).alloc (Nat.le_refl _) _) hHeld.2.2.1, bkeep ((Below.refl _ _).alloc (Nat.le_refl _) _) hHeld.2.2.2.1, bkeep ((Below.refl _ _).alloc (Nat.le_refl _) _) hHeld.2.2.2.2.1, bkeep ((Below.refl _ _).alloc (Nat.le_refl _) _) hHeld.2.2.2.2.2.1, bkeep ((Below.refl _ _).alloc (Nat.le_refl _) _) hHeld.2.2.2.2.2.2.1, bkeep ((Below.refl _ _).alloc (Nat.le_refl _) _) hHeld.2.2.2.2.2.2.2.1, bkeep ((Below.refl _ _).alloc (Nat.le_refl _) _) hHeld.2.2.2.2.2.2.2.2⟩ (fun hHeld => ?_)
        clear hK K
        try simp only [Act.put]
        refine wpAnyH_ready (rs := [2]) (by kernel_rfl) (by simp) ?_
        refine AllReadyH.cons rfl (fun K hK => ?_) AllReadyH.nil
        go_simp
        refine (HN8.out _).mono ?_
        rintro e wq ⟨rfl, rfl⟩
        refine hK.out _ _ hHeld (fun hHeld => ?_)
        clear hK K
        try simp only [Act.put]
        refine wpAnyH_take (i := 3) (v := ?_) rfl (by kernel_rfl) (by kernel_rfl) (by kernel_rfl) (fun _ _ _ h => h) (Or.inl ⟨by kernel_rfl, ?_⟩) (by assumption) ?_
        rotate_left
        · (intro w hSw; (try dsimp only at hSw); go_simp; (try rw [if_neg (by (try simp only [ByteArray.size_append]); omega)]); (try with_reducible rfl))
        try simp only [Act.put]
        refine wpAnyH_ready (rs := [4]) (by kernel_rfl) (by simp) ?_
        refine AllReadyH.cons rfl (fun K hK => ?_) AllReadyH.nil
        go_simp
        refine (HTRY.out _).mono ?_
        rintro e wk ⟨rfl, hbk⟩
        have hbb := btrans hbn hbk
        have kN : wk.heap[wc.heap.size]? = some (.cells #[.int .i64 0, .string ⟨#[]⟩, .int .i64 0, .bool false, .bool false, .int .i64 0, .int .i64 0, .int .i64 0, .int .i64 0] 24 (0, 0)) := (hbk.block wc.heap.size (by simp)).trans (heap_alloc_new wc _)
        refine hK.out _ _ ⟨bkeep hbk hHeld.1, bkeep hbk hHeld.2.1, bkeep hbk hHeld.2.2.1, bkeep hbk hHeld.2.2.2.1, bkeep hbk hHeld.2.2.2.2.1, bkeep hbk hHeld.2.2.2.2.2.1, bkeep hbk hHeld.2.2.2.2.2.2.1, bkeep hbk hHeld.2.2.2.2.2.2.2.1, bkeep hbk hHeld.2.2.2.2.2.2.2.2⟩ (fun hHeld => ?_)
        clear hK K
        try simp only [Act.put]
        refine wpAnyH_done (by kernel_rfl) ?_ _
        simp only [Exit.then]
        refine hK0 _ _ ?_
        clear hK0 K0 hHeld
        try simp only [Act.put]
        obtain ⟨W6, hW6, hst6⟩ := S3.out.fill hbb kN ⟨q, ks, 1 + x, b1, b2, d1, 0, v, z⟩
        simp only [cxCells, setsFrom, Nat.reduceAdd] at hW6
        have HST6 := Lib.hid hst6
        have x0 := block_cell kN 0 _ rfl
        have x1 := block_cell kN 1 _ rfl
        have x2 := block_cell kN 2 _ rfl
        have x3 := block_cell kN 3 _ rfl
        have x4 := block_cell kN 4 _ rfl
        have x5 := block_cell kN 5 _ rfl
        have x6 := block_cell kN 6 _ rfl
        have x7 := block_cell kN 7 _ rfl
        have x8 := block_cell kN 8 _ rfl
        have f0 := block_free kN 0
        have f1 := block_free kN 1
        have f2 := block_free kN 2
        have f3 := block_free kN 3
        have f4 := block_free kN 4
        have f5 := block_free kN 5
        have f6 := block_free kN 6
        have f7 := block_free kN 7
        have f8 := block_free kN 8
        clear kN hst6 hbb hbk hbn
        go_wp2_with fail
        go_meet
        exact ⟨_, rfl, HST6.out⟩
    case rest =>
      obtain ⟨B2, rfl, hst⟩ := hcut
      have S4 := Lib.hid hst
      clear hst S3
      clear r0 r1 r2 r3 r4 r5 r6 r7 r8
      have m := S4.out.boxes (B1, ⟨q, ks, 0, b1, b2, d1, ku, v, z⟩) (by simp)
      dsimp only [cxCells] at m
      have r0 := block_cell m 0 _ rfl
      have r1 := block_cell m 1 _ rfl
      have r2 := block_cell m 2 _ rfl
      have r3 := block_cell m 3 _ rfl
      have r4 := block_cell m 4 _ rfl
      have r5 := block_cell m 5 _ rfl
      have r6 := block_cell m 6 _ rfl
      have r7 := block_cell m 7 _ rfl
      have r8 := block_cell m 8 _ rfl
      clear m
      go_wp2_with fail
      refine (HCO.out _).mono ?_
      rintro e w5 ⟨rfl, hb⟩
      have S5 := Lib.hid ((S4.out.call hb).push ⟨q, ps, 0, b1, true, d1, 0, v, z⟩)
      dsimp only [cxCells] at S5
      clear hb S4
      clear r0 r1 r2 r3 r4 r5 r6 r7 r8
      have m := S5.out.boxes (B1, ⟨q, ks, 0, b1, b2, d1, ku, v, z⟩) (by simp)
      dsimp only [cxCells] at m
      have r0 := block_cell m 0 _ rfl
      have r1 := block_cell m 1 _ rfl
      have r2 := block_cell m 2 _ rfl
      have r3 := block_cell m 3 _ rfl
      have r4 := block_cell m 4 _ rfl
      have r5 := block_cell m 5 _ rfl
      have r6 := block_cell m 6 _ rfl
      have r7 := block_cell m 7 _ rfl
      have r8 := block_cell m 8 _ rfl
      clear m
      have m := S5.out.boxes (B2, ⟨q, ks, 1 + x, b1, b2, d1, 0, v, z⟩) (by simp)
      dsimp only [cxCells] at m
      have t0 := block_cell m 0 _ rfl
      have t1 := block_cell m 1 _ rfl
      have t2 := block_cell m 2 _ rfl
      have t3 := block_cell m 3 _ rfl
      have t4 := block_cell m 4 _ rfl
      have t5 := block_cell m 5 _ rfl
      have t6 := block_cell m 6 _ rfl
      have t7 := block_cell m 7 _ rfl
      have t8 := block_cell m 8 _ rfl
      clear m
      have m := S5.out.boxes (w5.heap.size, ⟨q, ps, 0, b1, true, d1, 0, v, z⟩) (by simp)
      dsimp only [cxCells] at m
      have p0 := block_cell m 0 _ rfl
      have p1 := block_cell m 1 _ rfl
      have p2 := block_cell m 2 _ rfl
      have p3 := block_cell m 3 _ rfl
      have p4 := block_cell m 4 _ rfl
      have p5 := block_cell m 5 _ rfl
      have p6 := block_cell m 6 _ rfl
      have p7 := block_cell m 7 _ rfl
      have p8 := block_cell m 8 _ rfl
      clear m
      go_wp2_with fail
      have nrow := heap_alloc_new (w5.alloc (.cells #[.int .i64 q, .string ps, .int .i64 0, .bool b1, .bool true, .int .i64 d1, .int .i64 0, .int .i64 v, .int .i64 z] 24)) (.cells #[.int .i64 q, .string ks, .int .i64 0, .bool b1, .bool b2, .int .i64 d1, .int .i64 ku, .int .i64 v, .int .i64 z, .int .i64 q, .string ks, .int .i64 (1 + x), .bool b1, .bool b2, .int .i64 d1, .int .i64 0, .int .i64 v, .int .i64 z, .int .i64 q, .string ps, .int .i64 0, .bool b1, .bool true, .int .i64 d1, .int .i64 0, .int .i64 v, .int .i64 z] 24)
      rw [show (w5.alloc (.cells #[.int .i64 q, .string ps, .int .i64 0, .bool b1, .bool true, .int .i64 d1, .int .i64 0, .int .i64 v, .int .i64 z] 24)).heap.size = w5.heap.size + 1 by simp] at nrow
      have S6 := Lib.hid (S5.out.call ((Below.refl _ _).alloc (Nat.le_refl _) (.cells #[.int .i64 q, .string ks, .int .i64 0, .bool b1, .bool b2, .int .i64 d1, .int .i64 ku, .int .i64 v, .int .i64 z, .int .i64 q, .string ks, .int .i64 (1 + x), .bool b1, .bool b2, .int .i64 d1, .int .i64 0, .int .i64 v, .int .i64 z, .int .i64 q, .string ps, .int .i64 0, .bool b1, .bool true, .int .i64 d1, .int .i64 0, .int .i64 v, .int .i64 z] 24)))
      obtain ⟨W6, hW6⟩ : ∃ W6, (w5.alloc (.cells #[.int .i64 q, .string ps, .int .i64 0, .bool b1, .bool true, .int .i64 d1, .int .i64 0, .int .i64 v, .int .i64 z] 24)).alloc (.cells #[.int .i64 q, .string ks, .int .i64 0, .bool b1, .bool b2, .int .i64 d1, .int .i64 ku, .int .i64 v, .int .i64 z, .int .i64 q, .string ks, .int .i64 (1 + x), .bool b1, .bool b2, .int .i64 d1, .int .i64 0, .int .i64 v, .int .i64 z, .int .i64 q, .string ps, .int .i64 0, .bool b1, .bool true, .int .i64 d1, .int .i64 0, .int .i64 v, .int .i64 z] 24) = W6 := ⟨_, rfl⟩
      rw [hW6] at nrow S6 ⊢
      have HROW : Hid (∀ w', Below W6.heap.size W6 w' → w'.heap[w5.heap.size + 1]? = some (.cells #[.int .i64 q, .string ks, .int .i64 0, .bool b1, .bool b2, .int .i64 d1, .int .i64 ku, .int .i64 v, .int .i64 z, .int .i64 q, .string ks, .int .i64 (1 + x), .bool b1, .bool b2, .int .i64 d1, .int .i64 0, .int .i64 v, .int .i64 z, .int .i64 q, .string ps, .int .i64 0, .bool b1, .bool true, .int .i64 d1, .int .i64 0, .int .i64 v, .int .i64 z] 24 (0, 0))) := fun w' hb => (hb.block _ (Array.getElem?_eq_some_iff.1 nrow).1).trans nrow
      have S0 : Hid (St W6 W6 [(w5.heap.size, ⟨q, ps, 0, b1, true, d1, 0, v, z⟩), (B2, ⟨q, ks, 1 + x, b1, b2, d1, 0, v, z⟩), (B1, ⟨q, ks, 0, b1, b2, d1, ku, v, z⟩), (w1.heap.size, ⟨q, s, tr, b1, b2, d, u, v, z⟩)]) := ⟨S6.out.boxes, Below.refl _ _⟩
      clear r0 r1 r2 r3 r4 r5 r6 r7 r8
      clear t0 t1 t2 t3 t4 t5 t6 t7 t8
      clear p0 p1 p2 p3 p4 p5 p6 p7 p8
      clear nrow S5 hW6
      go_loopw [17] (fun vi wr => ∃ i : Nat, vi = .int .i64 i ∧ i ≤ 3 ∧ Below W6.heap.size W6 wr) (fun vi _ => (3 - intOf vi).toNat)
      case atStart => exact ⟨0, rfl, by omega, Below.refl _ _⟩
      case round =>
        obtain ⟨i, rfl, hi, hbr⟩ := hrel
        have hrow := HROW.out _ hbr
        have S7 := Lib.hid (S0.out.call hbr)
        rcases (show i = 0 ∨ i = 1 ∨ i = 2 ∨ i = 3 by omega) with rfl | rfl | rfl | rfl
        · have e0 := block_cell hrow 0 _ rfl
          have e1 := block_cell hrow 1 _ rfl
          have e2 := block_cell hrow 2 _ rfl
          have e3 := block_cell hrow 3 _ rfl
          have e4 := block_cell hrow 4 _ rfl
          have e5 := block_cell hrow 5 _ rfl
          have e6 := block_cell hrow 6 _ rfl
          have e7 := block_cell hrow 7 _ rfl
          have e8 := block_cell hrow 8 _ rfl
          have S8 := Lib.hid (S7.out.push ⟨q, ks, 0, b1, b2, d1, ku, v, z⟩)
          dsimp only [cxCells] at S8
          clear hrow S7 hbr
          go_wp2_with fail
          obtain ⟨Wx, hWx⟩ : ∃ Wx, wr.alloc (.cells #[.int .i64 q, .string ks, .int .i64 0, .bool b1, .bool b2, .int .i64 d1, .int .i64 ku, .int .i64 v, .int .i64 z] 24) = Wx := ⟨_, rfl⟩
          rw [hWx] at S8 ⊢
          clear hWx
          clear e0 e1 e2 e3 e4 e5 e6 e7 e8
          refine (HCK.out _).mono ?_
          rintro e wk ⟨rfl, hb⟩
          have S9 := Lib.hid (S8.out.call hb)
          clear hb S8
          have m := S9.out.boxes (wr.heap.size, ⟨q, ks, 0, b1, b2, d1, ku, v, z⟩) (by simp)
          dsimp only [cxCells] at m
          have r0 := block_cell m 0 _ rfl
          have r1 := block_cell m 1 _ rfl
          have r2 := block_cell m 2 _ rfl
          have r3 := block_cell m 3 _ rfl
          have r4 := block_cell m 4 _ rfl
          have r5 := block_cell m 5 _ rfl
          have r6 := block_cell m 6 _ rfl
          have r7 := block_cell m 7 _ rfl
          have r8 := block_cell m 8 _ rfl
          clear m
          have m := S9.out.boxes (w1.heap.size, ⟨q, s, tr, b1, b2, d, u, v, z⟩) (by simp)
          dsimp only [cxCells] at m
          have t0 := block_cell m 0 _ rfl
          have t1 := block_cell m 1 _ rfl
          have t2 := block_cell m 2 _ rfl
          have t3 := block_cell m 3 _ rfl
          have t4 := block_cell m 4 _ rfl
          have t5 := block_cell m 5 _ rfl
          have t6 := block_cell m 6 _ rfl
          have t7 := block_cell m 7 _ rfl
          have t8 := block_cell m 8 _ rfl
          clear m
          have HB9 := Lib.hid S9.out.below
          clear S9
          go_wp2_with fail
          go_roundw
          case rel => exact ⟨1, by go_num, by omega, HB9.out⟩
          case measure => simp [intOf]
        · have e0 := block_cell hrow 9 _ rfl
          have e1 := block_cell hrow 10 _ rfl
          have e2 := block_cell hrow 11 _ rfl
          have e3 := block_cell hrow 12 _ rfl
          have e4 := block_cell hrow 13 _ rfl
          have e5 := block_cell hrow 14 _ rfl
          have e6 := block_cell hrow 15 _ rfl
          have e7 := block_cell hrow 16 _ rfl
          have e8 := block_cell hrow 17 _ rfl
          have S8 := Lib.hid (S7.out.push ⟨q, ks, 1 + x, b1, b2, d1, 0, v, z⟩)
          dsimp only [cxCells] at S8
          clear hrow S7 hbr
          go_wp2_with fail
          obtain ⟨Wx, hWx⟩ : ∃ Wx, wr.alloc (.cells #[.int .i64 q, .string ks, .int .i64 (1 + x), .bool b1, .bool b2, .int .i64 d1, .int .i64 0, .int .i64 v, .int .i64 z] 24) = Wx := ⟨_, rfl⟩
          rw [hWx] at S8 ⊢
          clear hWx
          clear e0 e1 e2 e3 e4 e5 e6 e7 e8
          refine (HCT.out _).mono ?_
          rintro e wk ⟨rfl, hb⟩
          have S9 := Lib.hid (S8.out.call hb)
          clear hb S8
          have m := S9.out.boxes (wr.heap.size, ⟨q, ks, 1 + x, b1, b2, d1, 0, v, z⟩) (by simp)
          dsimp only [cxCells] at m
          have r0 := block_cell m 0 _ rfl
          have r1 := block_cell m 1 _ rfl
          have r2 := block_cell m 2 _ rfl
          have r3 := block_cell m 3 _ rfl
          have r4 := block_cell m 4 _ rfl
          have r5 := block_cell m 5 _ rfl
          have r6 := block_cell m 6 _ rfl
          have r7 := block_cell m 7 _ rfl
          have r8 := block_cell m 8 _ rfl
          clear m
          have m := S9.out.boxes (w1.heap.size, ⟨q, s, tr, b1, b2, d, u, v, z⟩) (by simp)
          dsimp only [cxCells] at m
          have t0 := block_cell m 0 _ rfl
          have t1 := block_cell m 1 _ rfl
          have t2 := block_cell m 2 _ rfl
          have t3 := block_cell m 3 _ rfl
          have t4 := block_cell m 4 _ rfl
          have t5 := block_cell m 5 _ rfl
          have t6 := block_cell m 6 _ rfl
          have t7 := block_cell m 7 _ rfl
          have t8 := block_cell m 8 _ rfl
          clear m
          have HB9 := Lib.hid S9.out.below
          clear S9
          go_wp2_with fail
          go_roundw
          case rel => exact ⟨2, by go_num, by omega, HB9.out⟩
          case measure => simp [intOf]
        · have e0 := block_cell hrow 18 _ rfl
          have e1 := block_cell hrow 19 _ rfl
          have e2 := block_cell hrow 20 _ rfl
          have e3 := block_cell hrow 21 _ rfl
          have e4 := block_cell hrow 22 _ rfl
          have e5 := block_cell hrow 23 _ rfl
          have e6 := block_cell hrow 24 _ rfl
          have e7 := block_cell hrow 25 _ rfl
          have e8 := block_cell hrow 26 _ rfl
          have S8 := Lib.hid (S7.out.push ⟨q, ps, 0, b1, true, d1, 0, v, z⟩)
          dsimp only [cxCells] at S8
          clear hrow S7 hbr
          go_wp2_with fail
          obtain ⟨Wx, hWx⟩ : ∃ Wx, wr.alloc (.cells #[.int .i64 q, .string ps, .int .i64 0, .bool b1, .bool true, .int .i64 d1, .int .i64 0, .int .i64 v, .int .i64 z] 24) = Wx := ⟨_, rfl⟩
          rw [hWx] at S8 ⊢
          clear hWx
          clear e0 e1 e2 e3 e4 e5 e6 e7 e8
          refine (HCP.out _).mono ?_
          rintro e wk ⟨rfl, hb⟩
          have S9 := Lib.hid (S8.out.call hb)
          clear hb S8
          have m := S9.out.boxes (wr.heap.size, ⟨q, ps, 0, b1, true, d1, 0, v, z⟩) (by simp)
          dsimp only [cxCells] at m
          have r0 := block_cell m 0 _ rfl
          have r1 := block_cell m 1 _ rfl
          have r2 := block_cell m 2 _ rfl
          have r3 := block_cell m 3 _ rfl
          have r4 := block_cell m 4 _ rfl
          have r5 := block_cell m 5 _ rfl
          have r6 := block_cell m 6 _ rfl
          have r7 := block_cell m 7 _ rfl
          have r8 := block_cell m 8 _ rfl
          clear m
          have m := S9.out.boxes (w1.heap.size, ⟨q, s, tr, b1, b2, d, u, v, z⟩) (by simp)
          dsimp only [cxCells] at m
          have t0 := block_cell m 0 _ rfl
          have t1 := block_cell m 1 _ rfl
          have t2 := block_cell m 2 _ rfl
          have t3 := block_cell m 3 _ rfl
          have t4 := block_cell m 4 _ rfl
          have t5 := block_cell m 5 _ rfl
          have t6 := block_cell m 6 _ rfl
          have t7 := block_cell m 7 _ rfl
          have t8 := block_cell m 8 _ rfl
          clear m
          have HB9 := Lib.hid S9.out.below
          clear S9
          go_wp2_with fail
          go_roundw
          case rel => exact ⟨3, by go_num, by omega, HB9.out⟩
          case measure => simp [intOf]
        · have S7b := Lib.hid (S6.out.call hbr)
          clear hrow hbr S7
          have m := S7b.out.boxes (w1.heap.size, ⟨q, s, tr, b1, b2, d, u, v, z⟩) (by simp)
          dsimp only [cxCells] at m
          have r0 := block_cell m 0 _ rfl
          have r1 := block_cell m 1 _ rfl
          have r2 := block_cell m 2 _ rfl
          have r3 := block_cell m 3 _ rfl
          have r4 := block_cell m 4 _ rfl
          have r5 := block_cell m 5 _ rfl
          have r6 := block_cell m 6 _ rfl
          have r7 := block_cell m 7 _ rfl
          have r8 := block_cell m 8 _ rfl
          clear m
          go_wp2_with fail
          refine (HCC.out _).mono ?_
          rintro e wj ⟨rfl, hb⟩
          have S8 := Lib.hid (S7b.out.call hb)
          clear hb S7b r0 r1 r2 r3 r4 r5 r6 r7 r8
          have m := S8.out.boxes (w1.heap.size, ⟨q, s, tr, b1, b2, d, u, v, z⟩) (by simp)
          dsimp only [cxCells] at m
          have r0 := block_cell m 0 _ rfl
          have r1 := block_cell m 1 _ rfl
          have r2 := block_cell m 2 _ rfl
          have r3 := block_cell m 3 _ rfl
          have r4 := block_cell m 4 _ rfl
          have r5 := block_cell m 5 _ rfl
          have r6 := block_cell m 6 _ rfl
          have r7 := block_cell m 7 _ rfl
          have r8 := block_cell m 8 _ rfl
          clear m
          have m := S8.out.boxes (w5.heap.size, ⟨q, ps, 0, b1, true, d1, 0, v, z⟩) (by simp)
          dsimp only [cxCells] at m
          have p0 := block_cell m 0 _ rfl
          have p1 := block_cell m 1 _ rfl
          have p2 := block_cell m 2 _ rfl
          have p3 := block_cell m 3 _ rfl
          have p4 := block_cell m 4 _ rfl
          have p5 := block_cell m 5 _ rfl
          have p6 := block_cell m 6 _ rfl
          have p7 := block_cell m 7 _ rfl
          have p8 := block_cell m 8 _ rfl
          clear m
          have m := S8.out.boxes (B1, ⟨q, ks, 0, b1, b2, d1, ku, v, z⟩) (by simp)
          dsimp only [cxCells] at m
          have t0 := block_cell m 0 _ rfl
          have t1 := block_cell m 1 _ rfl
          have t2 := block_cell m 2 _ rfl
          have t3 := block_cell m 3 _ rfl
          have t4 := block_cell m 4 _ rfl
          have t5 := block_cell m 5 _ rfl
          have t6 := block_cell m 6 _ rfl
          have t7 := block_cell m 7 _ rfl
          have t8 := block_cell m 8 _ rfl
          clear m
          go_wp2_with fail
          refine (HLV.out _ S8.out.below).mono ?_
          rintro e wl ⟨rfl, hb⟩
          have HF := Lib.hid (S8.out.call hb).below
          clear hb
          go_wp2_with fail
          go_ret
          exact ⟨rfl, HF.out⟩

end Go.Proofs.YtjollcacgnfabaaDoor
