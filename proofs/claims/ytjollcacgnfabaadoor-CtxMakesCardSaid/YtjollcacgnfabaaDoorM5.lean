/- A fresh request's call: the document's. -/
import Derived.Test.YtjollcacgnfabaaDoorM4
namespace Go.Proofs.YtjollcacgnfabaaDoor
open Go.RowKit
attribute [local go_sem ↓] Go.wp_at_zero Go.wp_at_succ

theorem blocks2 (w : World) (c1 c2 : Array Value) (T1 T2 : TypeId) : ∃ W, (w.alloc (.cells c1 T1)).alloc (.cells c2 T2) = W ∧ Below w.heap.size w W ∧ W.heap.size = w.heap.size + 2 ∧
    W.heap[w.heap.size]? = some (.cells c1 T1 (0, 0)) ∧ W.heap[w.heap.size + 1]? = some (.cells c2 T2 (0, 0)) := by
  have e1 : (w.alloc (.cells c1 T1)).heap.size = w.heap.size + 1 := by simp
  have b1 : Below w.heap.size w (w.alloc (.cells c1 T1)) := (Below.refl _ _).alloc (Nat.le_refl _) _
  have b2 : Below (w.alloc (.cells c1 T1)).heap.size (w.alloc (.cells c1 T1)) ((w.alloc (.cells c1 T1)).alloc (.cells c2 T2)) := (Below.refl _ _).alloc (Nat.le_refl _) _
  have n1 := heap_alloc_new w (.cells c1 T1)
  have n2 := heap_alloc_new (w.alloc (.cells c1 T1)) (.cells c2 T2)
  rw [e1] at n2
  exact ⟨_, rfl, btrans b1 b2, by simp, (b2.block _ (by rw [e1]; omega)).trans n1, n2⟩

set_option maxRecDepth 8000 in
set_option maxHeartbeats 1000000 in
theorem rroot_any (r : Rq) (version life most : Int) (hid : -9223372036854775808 ≤ r.id ∧ r.id ≤ 9223372036854775807) (hat : 0 ≤ r.at_ ∧ r.at_ ≤ 20000) (hl : 0 ≤ r.life ∧ r.life ≤ 20000) (hl2 : 0 ≤ life ∧ life ≤ 20000) (w : World) :
    Calls Tryd.prog 32 #[rqV r, .int .i64 version, .int .i64 life, .int .i64 most] w fun e w' => e = .returned (cxV (rootOf r version life most)) ∧ Below w.heap.size w w' := by
  have HI := Lib.hid (fun w => dec_all r.id hid w)
  have HCL := Lib.hid (fun w => rclamp_any r.prio w)
  have hz := numText_size r.id hid
  have HRE : Hid (cxV (rootOf r version life most) = .agg #[.int .i64 r.id, .string (numText r.id), .int .i64 0, .bool r.idem, .bool false, .int .i64 (r.at_ + min r.life life), .int .i64 (min r.purse most), .int .i64 version, .int .i64 (clamp3 r.prio)]) := rfl
  rw [HRE.out]
  clear HRE
  obtain ⟨id, at_, path, heads, prio, idem, rl, rp⟩ := r
  dsimp only at *
  obtain ⟨tx, htx⟩ : ∃ tx, tx = numText id := ⟨_, rfl⟩
  obtain ⟨cp, hcp⟩ : ∃ cp, cp = clamp3 prio := ⟨_, rfl⟩
  rw [← htx] at HI hz ⊢
  rw [← hcp] at HCL ⊢
  clear htx hcp
  unfold rqV rqCells
  dsimp only
  have g1 : IntKind.i64.wrap (at_ + min rl life) = at_ + min rl life := IntWalk.i64_in _ (by omega)
  obtain ⟨W, hW, hb, hsz, n1, n2⟩ := blocks2 w #[.int .i64 id, .int .i64 at_, .string path, heads, .int .i64 prio, .bool idem, .int .i64 rl, .int .i64 rp] #[.int .i64 0, .string ⟨#[]⟩, .int .i64 0, .bool false, .bool false, .int .i64 0, .int .i64 0, .int .i64 0, .int .i64 0] 51 24
  have HB := Lib.hid hb
  have HSZ := Lib.hid hsz
  have HN1 := Lib.hid n1
  have HN2 := Lib.hid n2
  have HSX : Hid (∀ w', Below W.heap.size W w' → w'.cell? ⟨w.heap.size, 0, none⟩ = some (.int .i64 id) ∧ w'.cell? ⟨w.heap.size, 5, none⟩ = some (.bool idem)) := fun w' hb => by
    have m1 := (hb.block _ (by have := HSZ.out; omega)).trans n1
    exact ⟨block_cell m1 0 _ rfl, block_cell m1 5 _ rfl⟩
  clear hb hsz n1 n2
  go_enter Tryd.func32, Tryd.ntmps32
  go_wp2_with fail
  clear hW
  go_cut [9] from 10 to 18 (fun vv wx => ∃ B wy, vv = .pointer (some ⟨B, 0, none⟩) ∧ wy = wx ∧ W.heap.size ≤ B ∧ Below W.heap.size W wy ∧ wy.heap[B]? = some (.cells #[.int .i64 id, .string tx, .int .i64 0, .bool idem, .bool false, .int .i64 0, .int .i64 0, .int .i64 version, .int .i64 0] 24 (0, 0)))
  case first =>
    refine wp_region_split_held 10 (fun w' => w'.cell? ⟨w.heap.size, 0, none⟩ = some (.int .i64 id) ∧ w'.cell? ⟨w.heap.size, 5, none⟩ = some (.bool idem)) (by kernel_rfl) (by kernel_rfl) (HSX.out _ (Below.refl _ _).drew) (fun K0 hK0 hHeld => ?_)
    simp only [List.take_succ_cons, List.take_zero]
    refine wpAnyH_take (i := 0) (v := ?_) rfl (by kernel_rfl) (by kernel_rfl) (by kernel_rfl) (fun _ _ _ h => h) (Or.inl ⟨by kernel_rfl, ?_⟩) (by assumption) ?_
    rotate_left
    · (intro w hSw; (try dsimp only at hSw); go_simp; (try rw [if_neg (by (try simp only [ByteArray.size_append]); omega)]); (try with_reducible rfl))
    try simp only [Act.put]
    refine wpAnyH_take (i := 1) (v := ?_) rfl (by kernel_rfl) (by kernel_rfl) (by kernel_rfl) (fun _ _ _ h => h) (Or.inl ⟨by kernel_rfl, ?_⟩) (by assumption) ?_
    rotate_left
    · (intro w hSw; (try dsimp only at hSw); go_simp; (try rw [if_neg (by (try simp only [ByteArray.size_append]); omega)]); (try with_reducible rfl))
    try simp only [Act.put]
    refine wpAnyH_take (i := 2) (v := ?_) rfl (by kernel_rfl) (by kernel_rfl) (by kernel_rfl) (fun _ _ _ h => h) (Or.inl ⟨by kernel_rfl, ?_⟩) (by assumption) ?_
    rotate_left
    · (intro w hSw; (try dsimp only at hSw); go_simp; (try rw [if_neg (by (try simp only [ByteArray.size_append]); omega)]); (try with_reducible rfl))
    try simp only [Act.put]
    refine wpAnyH_take (i := 3) (v := ?_) rfl (by kernel_rfl) (by kernel_rfl) (by kernel_rfl) (fun _ _ _ h => h) (Or.inl ⟨by kernel_rfl, ?_⟩) (by assumption) ?_
    rotate_left
    · (intro w hSw; (try dsimp only at hSw); go_simp; (try rw [if_neg (by (try simp only [ByteArray.size_append]); omega)]); (try with_reducible rfl))
    try simp only [Act.put]
    refine wpAnyH_take (i := 5) (v := ?_) rfl (by kernel_rfl) (by kernel_rfl) (by kernel_rfl) (fun _ _ _ h => h) (Or.inl ⟨by kernel_rfl, ?_⟩) (by assumption) ?_
    rotate_left
    · (intro w hSw; (try dsimp only at hSw); go_simp; (try rw [if_neg (by (try simp only [ByteArray.size_append]); omega)]); (try with_reducible rfl))
    try simp only [Act.put]
    refine wpAnyH_take (i := 6) (v := ?_) rfl (by kernel_rfl) (by kernel_rfl) (by kernel_rfl) (fun _ _ _ h => h) (Or.inl ⟨by kernel_rfl, ?_⟩) (by assumption) ?_
    rotate_left
    · (intro w hSw; (try dsimp only at hSw); go_simp; (try rw [if_neg (by (try simp only [ByteArray.size_append]); omega)]); (try with_reducible rfl))
    try simp only [Act.put]
    refine wpAnyH_take (i := 7) (v := ?_) rfl (by kernel_rfl) (by kernel_rfl) (by kernel_rfl) (fun _ _ _ h => h) (Or.inl ⟨by kernel_rfl, ?_⟩) (by assumption) ?_
    rotate_left
    · (intro w hSw; (try dsimp only at hSw); go_simp; (try rw [if_neg (by (try simp only [ByteArray.size_append]); omega)]); (try with_reducible rfl))
    try simp only [Act.put]
    refine wpAnyH_ready (rs := [4, 9]) (by kernel_rfl) (by simp) ?_
    refine AllReadyH.cons rfl (fun K hK => ?_) (AllReadyH.cons rfl (fun K hK => ?_) AllReadyH.nil)
    · go_simp
      refine (HI.out _).mono ?_
      rintro e wk ⟨rfl, hbk⟩
      replace hbk := bdrew hbk
      refine hK.out _ _ (HSX.out _ hbk) (fun hHeld => ?_)
      clear hK K
      try simp only [Act.put]
      refine wpAnyH_take (i := 8) (v := ?_) rfl (by kernel_rfl) (by kernel_rfl) (by kernel_rfl) (fun _ _ _ h => h) (Or.inl ⟨by kernel_rfl, ?_⟩) (by assumption) ?_
      rotate_left
      · (intro w hSw; (try dsimp only at hSw); go_simp; (try rw [if_neg (by (try simp only [ByteArray.size_append]); omega)]); (try with_reducible rfl))
      try simp only [Act.put]
      refine wpAnyH_ready (rs := [9]) (by kernel_rfl) (by simp) ?_
      refine AllReadyH.cons rfl (fun K hK => ?_) AllReadyH.nil
      go_simp
      refine hK.out _ _ (HSX.out _ (hbk.alloc hbk.size _)) (fun hHeld => ?_)
      clear hK K
      try simp only [Act.put]
      refine wpAnyH_done (by kernel_rfl) ?_ _
      simp only [Exit.then]
      refine hK0 _ _ ?_
      clear hK0 K0 hHeld
      try simp only [Act.put]
      go_wp2_with fail
      go_meet
      exact ⟨_, _, rfl, rfl, hbk.size, hbk.alloc hbk.size _, heap_alloc_new wk _⟩
    · go_simp
      have hbn : Below W.heap.size W ((W.alloc (.cells #[.int .i64 0, .string ⟨#[]⟩, .int .i64 0, .bool false, .bool false, .int .i64 0, .int .i64 0, .int .i64 0, .int .i64 0] 24)).drew) := ((Below.refl _ _).alloc (Nat.le_refl _) _).drew
      refine hK.out _ _ (HSX.out _ ((Below.refl _ _).drew.alloc (Nat.le_refl _) _)) (fun hHeld => ?_)
      clear hK K
      try simp only [Act.put]
      refine wpAnyH_ready (rs := [4]) (by kernel_rfl) (by simp) ?_
      refine AllReadyH.cons rfl (fun K hK => ?_) AllReadyH.nil
      go_simp
      refine (HI.out _).mono ?_
      rintro e wk ⟨rfl, hbk⟩
      have hbb := btrans hbn hbk
      have kN : wk.heap[W.heap.size]? = some (.cells #[.int .i64 0, .string ⟨#[]⟩, .int .i64 0, .bool false, .bool false, .int .i64 0, .int .i64 0, .int .i64 0, .int .i64 0] 24 (0, 0)) := (hbk.block W.heap.size (by simp)).trans (heap_alloc_new W _)
      refine hK.out _ _ (HSX.out _ hbb) (fun hHeld => ?_)
      clear hK K
      try simp only [Act.put]
      refine wpAnyH_take (i := 8) (v := ?_) rfl (by kernel_rfl) (by kernel_rfl) (by kernel_rfl) (fun _ _ _ h => h) (Or.inl ⟨by kernel_rfl, ?_⟩) (by assumption) ?_
      rotate_left
      · (intro w hSw; (try dsimp only at hSw); go_simp; (try rw [if_neg (by (try simp only [ByteArray.size_append]); omega)]); (try with_reducible rfl))
      try simp only [Act.put]
      refine wpAnyH_done (by kernel_rfl) ?_ _
      simp only [Exit.then]
      refine hK0 _ _ ?_
      clear hK0 K0 hHeld
      try simp only [Act.put]
      obtain ⟨W6, hW6, hu, u1⟩ := copy_out ⟨id, tx, 0, idem, false, 0, 0, version, 0⟩ kN hbb (Nat.le_refl _)
      simp only [cxCells, setsFrom, Nat.reduceAdd] at hW6
      dsimp only [cxCells] at u1
      have HU := Lib.hid hu
      have HU1 := Lib.hid u1
      have x0 := block_cell kN 0 _ rfl
      have x1 := block_cell kN 1 _ rfl
      have x2 := block_cell kN 2 _ rfl
      have x3 := block_cell kN 3 _ rfl
      have x4 := block_cell kN 4 _ rfl
      have x5 := block_cell kN 5 _ rfl
      have x6 := block_cell kN 6 _ rfl
      have x7 := block_cell kN 7 _ rfl
      have x8 := block_cell kN 8 _ rfl
      have f0 := block_free kN 0
      have f1 := block_free kN 1
      have f2 := block_free kN 2
      have f3 := block_free kN 3
      have f4 := block_free kN 4
      have f5 := block_free kN 5
      have f6 := block_free kN 6
      have f7 := block_free kN 7
      have f8 := block_free kN 8
      clear kN hbb hbk hbn hu u1
      go_wp2_with fail
      go_meet
      exact ⟨_, _, rfl, rfl, Nat.le_refl _, HU.out, HU1.out⟩
  case rest =>
    obtain ⟨B, wx, rfl, rfl, hB, hb, hk⟩ := hcut
    have m1 := (hb.block _ (by have := HSZ.out; omega)).trans HN1.out
    have hne : w.heap.size ≠ B := by have := HSZ.out; omega
    have hne2 : w.heap.size + 1 ≠ B := by have := HSZ.out; omega
    have m2 := (hb.block _ (by have := HSZ.out; omega)).trans HN2.out
    have hwB : w.heap.size ≤ B := by have := HSZ.out; omega
    have q3 := setCell_block _ B 6 _ _ _ (.int .i64 (min rp most)) (setCell_block wx B 5 _ _ _ (.int .i64 (at_ + min rl life)) hk)
    simp only [List.setIfInBounds_toArray, List.set_cons_zero, List.set_cons_succ] at q3
    have hblk : ∀ (A : Nat), A ≠ B → ∀ (U : World) (o : Nat) (x : Value), (U.setCell ⟨B, o, none⟩ x).heap[A]? = U.heap[A]? := fun A hA U o x => Below.heap_setCell U ⟨B, o, none⟩ x _ hA
    have q1 := ((hblk _ hne _ 6 (.int .i64 (min rp most))).trans (hblk _ hne wx 5 (.int .i64 (at_ + min rl life)))).trans m1
    have q2 := ((hblk _ hne2 _ 6 (.int .i64 (min rp most))).trans (hblk _ hne2 wx 5 (.int .i64 (at_ + min rl life)))).trans m2
    have q4 := (((btrans HB.out hb)).setCell (p := ⟨B, 5, none⟩) hwB (.int .i64 (at_ + min rl life))).setCell (p := ⟨B, 6, none⟩) hwB (.int .i64 (min rp most))
    obtain ⟨X, hX⟩ : ∃ X, (wx.setCell ⟨B, 5, none⟩ (.int .i64 (at_ + min rl life))).setCell ⟨B, 6, none⟩ (.int .i64 (min rp most)) = X := ⟨_, rfl⟩
    rw [hX] at q1 q2 q3 q4
    have x4 := block_cell q1 4 _ rfl
    have s3 := setCell_block X B 8 _ _ _ (.int .i64 cp) q3
    simp only [List.setIfInBounds_toArray, List.set_cons_zero, List.set_cons_succ] at s3
    have s2 := (hblk _ hne2 X 8 (.int .i64 cp)).trans q2
    have s4 := q4.setCell (p := ⟨B, 8, none⟩) hwB (.int .i64 cp)
    obtain ⟨X3, hX3⟩ : ∃ X3, X.setCell ⟨B, 8, none⟩ (.int .i64 cp) = X3 := ⟨_, rfl⟩
    rw [hX3] at s2 s3 s4
    obtain ⟨W6, hW6, hu, u1⟩ := copy_out ⟨id, tx, 0, idem, false, at_ + min rl life, min rp most, version, cp⟩ s2 s4 (Nat.le_succ _)
    simp only [cxCells, setsFrom, Nat.reduceAdd] at hW6
    dsimp only [cxCells] at u1
    have HU := Lib.hid hu
    have k0 := block_cell m1 0 _ rfl
    have k1 := block_cell m1 1 _ rfl
    have k2 := block_cell m1 2 _ rfl
    have k3 := block_cell m1 3 _ rfl
    have k4 := block_cell m1 4 _ rfl
    have k5 := block_cell m1 5 _ rfl
    have k6 := block_cell m1 6 _ rfl
    have k7 := block_cell m1 7 _ rfl
    have f0 := block_free hk 0
    have f1 := block_free hk 1
    have f2 := block_free hk 2
    have f3 := block_free hk 3
    have f4 := block_free hk 4
    have f5 := block_free hk 5
    have f6 := block_free hk 6
    have f7 := block_free hk 7
    have f8 := block_free hk 8
    have xf8 := block_free q3 8
    have xb8 := block_cell q3 8 _ rfl
    have p0 := block_cell hk 0 _ rfl
    have p1 := block_cell hk 1 _ rfl
    have p2 := block_cell hk 2 _ rfl
    have p3 := block_cell hk 3 _ rfl
    have p4 := block_cell hk 4 _ rfl
    have p5 := block_cell hk 5 _ rfl
    have p6 := block_cell hk 6 _ rfl
    have p7 := block_cell hk 7 _ rfl
    have p8 := block_cell hk 8 _ rfl
    have y0 := block_cell s3 0 _ rfl
    have y1 := block_cell s3 1 _ rfl
    have y2 := block_cell s3 2 _ rfl
    have y3 := block_cell s3 3 _ rfl
    have y4 := block_cell s3 4 _ rfl
    have y5 := block_cell s3 5 _ rfl
    have y6 := block_cell s3 6 _ rfl
    have y7 := block_cell s3 7 _ rfl
    have y8 := block_cell s3 8 _ rfl
    have j0 := block_free s2 0
    have j1 := block_free s2 1
    have j2 := block_free s2 2
    have j3 := block_free s2 3
    have j4 := block_free s2 4
    have j5 := block_free s2 5
    have j6 := block_free s2 6
    have j7 := block_free s2 7
    have j8 := block_free s2 8
    have c0 := block_cell s2 0 _ rfl
    have c1 := block_cell s2 1 _ rfl
    have c2 := block_cell s2 2 _ rfl
    have c3 := block_cell s2 3 _ rfl
    have c4 := block_cell s2 4 _ rfl
    have c5 := block_cell s2 5 _ rfl
    have c6 := block_cell s2 6 _ rfl
    have c7 := block_cell s2 7 _ rfl
    have c8 := block_cell s2 8 _ rfl
    have e0 := block_cell u1 0 _ rfl
    have e1 := block_cell u1 1 _ rfl
    have e2 := block_cell u1 2 _ rfl
    have e3 := block_cell u1 3 _ rfl
    have e4 := block_cell u1 4 _ rfl
    have e5 := block_cell u1 5 _ rfl
    have e6 := block_cell u1 6 _ rfl
    have e7 := block_cell u1 7 _ rfl
    have e8 := block_cell u1 8 _ rfl
    clear m1 m2 hb hk q1 q2 q3 q4 s2 s3 s4 hu u1 hblk hB hne hne2 hwB
    go_wp2_with fail
    refine (HCL.out _).mono ?_
    rintro e wq ⟨rfl, rfl⟩
    clear hX p0 p1 p2 p3 p4 p5 p6 p7 p8 x4 k0 k1 k2 k3 k4 k5 k6 k7 f0 f1 f2 f3 f4 f5 f6 f7 f8
    go_wp2_with fail
    exact bodyPost_ret (v := .agg #[.int .i64 id, .string tx, .int .i64 0, .bool idem, .bool false, .int .i64 (at_ + min rl life), .int .i64 (min rp most), .int .i64 version, .int .i64 cp]) (by simp [results, Tryd.results32, go_sem, e0, e1, e2, e3, e4, e5, e6, e7, e8]) rfl ⟨rfl, HU.out⟩

end Go.Proofs.YtjollcacgnfabaaDoor
