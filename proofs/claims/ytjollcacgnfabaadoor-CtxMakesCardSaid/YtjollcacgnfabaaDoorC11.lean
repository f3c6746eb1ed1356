/- The document's Try, Copy, Span. -/
import Derived.Test.YtjollcacgnfabaaDoorC10
namespace Go.Proofs.YtjollcacgnfabaaDoor
open Go.RowKit
attribute [local go_sem ↓] Go.wp_at_zero Go.wp_at_succ

set_option maxRecDepth 8000 in
theorem rtry_any (c : Cx) (n p : Int) (w : World) :
    Calls Tryd.prog 33 #[cxV c, .int .i64 n, .int .i64 p] w fun e w' => e = .returned (cxV (c.tried n p)) ∧ Below w.heap.size w w' := by
  obtain ⟨q, s, t, a, b, d, u, v, z⟩ := c
  unfold cxV cxCells Cx.tried
  dsimp only
  go_enter Tryd.func33, Tryd.ntmps33
  obtain ⟨W, hW, hb, hbx⟩ := cx_boxes w ⟨q, s, n, a, b, d, p, v, z⟩
  dsimp only [cxCells] at hW hbx
  have HB := Lib.hid hb
  have r0 := block_cell hbx 0 _ rfl
  have r1 := block_cell hbx 1 _ rfl
  have r2 := block_cell hbx 2 _ rfl
  have r3 := block_cell hbx 3 _ rfl
  have r4 := block_cell hbx 4 _ rfl
  have r5 := block_cell hbx 5 _ rfl
  have r6 := block_cell hbx 6 _ rfl
  have r7 := block_cell hbx 7 _ rfl
  have r8 := block_cell hbx 8 _ rfl
  clear hbx hb
  go_wp2_with fail
  exact bodyPost_ret (v := .agg #[.int .i64 q, .string s, .int .i64 n, .bool a, .bool b, .int .i64 d, .int .i64 p, .int .i64 v, .int .i64 z]) (by simp [results, Tryd.results33, go_sem, r0, r1, r2, r3, r4, r5, r6, r7, r8]) rfl ⟨rfl, HB.out⟩

set_option maxRecDepth 8000 in
theorem rcopy_any (c : Cx) (hs : c.call.size ≤ 1000000) (w : World) :
    Calls Tryd.prog 34 #[cxV c] w fun e w' => e = .returned (cxV c.copy) ∧ Below w.heap.size w w' := by
  obtain ⟨q, s, t, a, b, d, u, v, z⟩ := c
  dsimp only at hs
  unfold cxV cxCells Cx.copy
  dsimp only
  obtain ⟨W, hW, hb, hbx⟩ := cx_boxes w ⟨q, s ++ ⟨#[126]⟩, t, a, true, d, 0, v, z⟩
  dsimp only [cxCells] at hW hbx
  have HB := Lib.hid hb
  have h1 : (⟨#[126]⟩ : ByteArray).size = 1 := rfl
  have r0 := block_cell hbx 0 _ rfl
  have r1 := block_cell hbx 1 _ rfl
  have r2 := block_cell hbx 2 _ rfl
  have r3 := block_cell hbx 3 _ rfl
  have r4 := block_cell hbx 4 _ rfl
  have r5 := block_cell hbx 5 _ rfl
  have r6 := block_cell hbx 6 _ rfl
  have r7 := block_cell hbx 7 _ rfl
  have r8 := block_cell hbx 8 _ rfl
  clear hbx hb
  go_enter Tryd.func34, Tryd.ntmps34
  go_wp2_with fail
  exact bodyPost_ret (v := .agg #[.int .i64 q, .string (s ++ ⟨#[126]⟩), .int .i64 t, .bool a, .bool true, .int .i64 d, .int .i64 0, .int .i64 v, .int .i64 z]) (by simp [results, Tryd.results34, go_sem, r0, r1, r2, r3, r4, r5, r6, r7, r8]) rfl ⟨rfl, HB.out⟩

set_option maxRecDepth 8000 in
set_option maxHeartbeats 1000000 in
theorem rspan_any (c : Cx) (hs : c.call.size ≤ 1000000) (ht : c.try_ ≤ 9) (w : World) :
    Calls Tryd.prog 16 #[cxV c] w fun e w' => e = .returned (.string c.span) ∧ Below w.heap.size w w' := by
  have HS : Hid (c.span = if 0 < c.try_ then c.call ++ ⟨#[58]⟩ ++ digit c.try_.toNat else c.call) := rfl
  obtain ⟨y, hy⟩ : ∃ y, y = c.span := ⟨_, rfl⟩
  rw [← hy] at HS ⊢
  clear hy
  obtain ⟨q, s, t, a, b, d, u, v, z⟩ := c
  dsimp only at hs ht HS
  unfold cxV cxCells
  dsimp only
  obtain ⟨W, hW⟩ : ∃ W, w.alloc (.cells #[.int .i64 q, .string s, .int .i64 t, .bool a, .bool b, .int .i64 d, .int .i64 u, .int .i64 v, .int .i64 z] 24) = W := ⟨_, rfl⟩
  have hbx := heap_alloc_new w (.cells #[.int .i64 q, .string s, .int .i64 t, .bool a, .bool b, .int .i64 d, .int .i64 u, .int .i64 v, .int .i64 z] 24)
  have hb : Below w.heap.size w W := by rw [← hW]; exact (Below.refl _ _).alloc (Nat.le_refl _) _
  rw [hW] at hbx
  have HB := Lib.hid hb
  have r0 := block_cell hbx 0 _ rfl
  have r1 := block_cell hbx 1 _ rfl
  have r2 := block_cell hbx 2 _ rfl
  have r3 := block_cell hbx 3 _ rfl
  have r4 := block_cell hbx 4 _ rfl
  have r5 := block_cell hbx 5 _ rfl
  have r6 := block_cell hbx 6 _ rfl
  have r7 := block_cell hbx 7 _ rfl
  have r8 := block_cell hbx 8 _ rfl
  clear hbx hb
  by_cases h0 : 0 < t
  · obtain ⟨m, rfl⟩ : ∃ m : Nat, t = (m : Int) := ⟨t.toNat, by omega⟩
    have HS2 : Hid (y = s ++ ⟨#[58]⟩ ++ digit m) := by rw [HS.out, if_pos h0]; exact rfl
    have t1 : decide ((0 : Int) < (m : Int)) = true := decide_eq_true h0
    have h0' : 0 < m := by omega
    have HI := Lib.hid (fun w => dec1 m w (by omega))
    have h1 : (s ++ ⟨#[58]⟩).size ≤ 1000001 := by rw [ByteArray.size_append]; show _ + 1 ≤ _; omega
    have h2 : (⟨#[58]⟩ : ByteArray).size = 1 := rfl
    have h3 : (digit m).size = 1 := rfl
    clear HS h0
    go_enter Tryd.func16, Tryd.ntmps16
    go_wp2_with fail
    refine wp_region_held_drew (S := fun w' => w'.cell? ⟨w.heap.size, 1, none⟩ = some (.string s) ∧ w'.cell? ⟨w.heap.size, 2, none⟩ = some (.int .i64 (m : Int))) (by kernel_rfl) ⟨r1, r2⟩ (fun hHeld => ?_)
    refine wpAnyH_take (i := 0) (v := ?_) rfl (by kernel_rfl) (by kernel_rfl) (by kernel_rfl) (fun _ _ _ h => h) (Or.inl ⟨by kernel_rfl, ?_⟩) (by assumption) ?_
    rotate_left
    · (intro w hSw; (try dsimp only at hSw); go_simp; (try rw [if_neg (by (try simp only [ByteArray.size_append]); omega)]); (try with_reducible rfl))
    try simp only [Act.put]
    refine wpAnyH_take (i := 1) (v := ?_) rfl (by kernel_rfl) (by kernel_rfl) (by kernel_rfl) (fun _ _ _ h => h) (Or.inl ⟨by kernel_rfl, ?_⟩) (by assumption) ?_
    rotate_left
    · (intro w hSw; (try dsimp only at hSw); go_simp; (try rw [if_neg (by (try simp only [ByteArray.size_append]); omega)]); (try with_reducible rfl))
    try simp only [Act.put]
    refine wpAnyH_take (i := 2) (v := ?_) rfl (by kernel_rfl) (by kernel_rfl) (by kernel_rfl) (fun _ _ _ h => h) (Or.inl ⟨by kernel_rfl, ?_⟩) (by assumption) ?_
    rotate_left
    · (intro w hSw; (try dsimp only at hSw); go_simp; (try rw [if_neg (by (try simp only [ByteArray.size_append]); omega)]); (try with_reducible rfl))
    try simp only [Act.put]
    refine wpAnyH_take (i := 3) (v := ?_) rfl (by kernel_rfl) (by kernel_rfl) (by kernel_rfl) (fun _ _ _ h => h) (Or.inl ⟨by kernel_rfl, ?_⟩) (by assumption) ?_
    rotate_left
    · (intro w hSw; (try dsimp only at hSw); go_simp; (try rw [if_neg (by (try simp only [ByteArray.size_append]); omega)]); (try with_reducible rfl))
    try simp only [Act.put]
    refine wpAnyH_take (i := 4) (v := ?_) rfl (by kernel_rfl) (by kernel_rfl) (by kernel_rfl) (fun _ _ _ h => h) (Or.inl ⟨by kernel_rfl, ?_⟩) (by assumption) ?_
    rotate_left
    · (intro w hSw; (try dsimp only at hSw); go_simp; (try rw [if_neg (by (try simp only [ByteArray.size_append]); omega)]); (try with_reducible rfl))
    try simp only [Act.put]
    refine wpAnyH_ready (rs := [5]) (by kernel_rfl) (by simp) ?_
    refine AllReadyH.cons rfl (fun K hK => ?_) AllReadyH.nil
    go_simp
    refine (HI.out _).mono ?_
    rintro e w' ⟨rfl, hbp⟩
    replace hbp := bdrew hbp
    refine hK.out _ _ (⟨bkeep hbp r1, bkeep hbp r2⟩) (fun hHeld => ?_)
    clear hK K
    try simp only [Act.put]
    refine wpAnyH_take (i := 6) (v := ?_) rfl (by kernel_rfl) (by kernel_rfl) (by kernel_rfl) (fun _ _ _ h => h) (Or.inl ⟨by kernel_rfl, ?_⟩) (by assumption) ?_
    rotate_left
    · (intro w hSw; (try dsimp only at hSw); go_simp; (try rw [if_neg (by (try simp only [ByteArray.size_append]); omega)]); (try with_reducible rfl))
    try simp only [Act.put]
    refine wpAnyH_ready (rs := [7]) (by kernel_rfl) (by simp) ?_
    refine AllReadyH.cons rfl (fun K hK => ?_) AllReadyH.nil
    go_simp
    refine hK.out _ _ (⟨bkeep hbp r1, bkeep hbp r2⟩) (fun hHeld => ?_)
    clear hK K
    try simp only [Act.put]
    refine wpAnyH_done (by kernel_rfl) ?_ _
    try simp only [Act.put]
    have HFIN := Lib.hid (btrans HB.out hbp)
    clear hbp hHeld
    go_wp2_with fail
    go_ret
    rw [HS2.out]
    exact ⟨rfl, HFIN.out⟩
  · have HS2 : Hid (y = s) := by rw [HS.out, if_neg h0]; exact rfl
    have t1 : decide (0 < t) = false := decide_eq_false h0
    clear HS
    go_enter Tryd.func16, Tryd.ntmps16
    go_wp2_with fail
    go_ret
    rw [HS2.out]
    exact ⟨rfl, HB.out⟩

end Go.Proofs.YtjollcacgnfabaaDoor
