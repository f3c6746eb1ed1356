/- A call made of numbers: its name is short. -/
import Derived.Test.YtkpjjhiighakfaaGreatDoorN1
namespace Go.Proofs.YtkpjjhiighakfaaGreatDoor
open Go.RowKit
attribute [local go_sem ↓] Go.wp_at_zero Go.wp_at_succ

def BegunTPost (w : World) (l p : List Int) (e : Ending) (w' : World) : Prop :=
  ∃ s cb mb bb, s.size ≤ 3 ∧ e = .returned (.tuple #[.pointer (some ⟨cb, 0, none⟩), cxVal (ctxOf l s), polVal (polOf p)]) ∧ CallAt w' cb mb bb (newS (ctxOf l s) (polOf p)) (fullBk (polOf p)) ∧ (w.heap.size ≤ cb ∧ w.heap.size ≤ mb ∧ w.heap.size ≤ bb) ∧ Below w.heap.size w w'

set_option maxRecDepth 8000 in
set_option maxHeartbeats 2000000 in
theorem begunT_any {w : World} {A A' : Option Addr} {n n' : Nat} {l p : List Int} (h : ArgInts w A n l) (h' : ArgInts w A' n' p) (cap cap' : Nat) :
    Calls Tryz.prog 4 #[.slice A n cap, .slice A' n' cap'] w (BegunTPost w l p) := by
  have H := Lib.hid h
  have H' := Lib.hid h'
  clear h h'
  go_enter Tryz.func4, Tryz.ntmps4
  go_wp2_with fail
  obtain ⟨W1, hW1⟩ : ∃ W1, W1 = (w.alloc (.cells #[.int .i64 0, .string ⟨#[]⟩, .int .i64 0, .bool false, .bool false, .int .i64 0, .int .i64 0, .int .i64 0, .int .i64 0] 25)).alloc (.cells #[.int .i64 0, .int .i64 0, .int .i64 0, .int .i64 0, .int .i64 0, .int .i64 0, .int .i64 0] 29) := ⟨_, rfl⟩
  have hb1 : Below w.heap.size w W1 := by rw [hW1]; exact ((Below.refl _ _).alloc (Nat.le_refl _) _).alloc (by simp) _
  rw [← hW1]
  refine (ctx_any (H.out.keep hb1) _).mono ?_
  rintro e w2 ⟨s, hs, rfl, hb2⟩
  obtain ⟨c, hc⟩ : ∃ c, c = ctxOf l s := ⟨_, rfl⟩
  have HC := Lib.hid hc
  rw [← hc]
  have hb2' := btrans hb1 hb2
  have hz1 : w.heap.size + 2 ≤ W1.heap.size := by rw [hW1]; simp
  have hz2 := hb2.size
  have k5 : w2.heap[w.heap.size]? = some (.cells #[.int .i64 0, .string ⟨#[]⟩, .int .i64 0, .bool false, .bool false, .int .i64 0, .int .i64 0, .int .i64 0, .int .i64 0] 25 (0, 0)) := (hb2.block _ (by omega)).trans (by rw [hW1]; exact alloc_keep _ (heap_alloc_new _ _))
  have k6 : w2.heap[w.heap.size + 1]? = some (.cells #[.int .i64 0, .int .i64 0, .int .i64 0, .int .i64 0, .int .i64 0, .int .i64 0, .int .i64 0] 29 (0, 0)) := (hb2.block _ (by omega)).trans (by rw [hW1]; exact alloc_new' _ _ (by simp))
  dsimp only [cxVal]
  clear hW1 hb1 hb2 hc
  go_wp2_with fail
  obtain ⟨W3, hW3⟩ : ∃ W3, W3 = w2.alloc (.cells #[.int .i64 c.req, .string c.call, .int .i64 c.try_, .bool c.idem, .bool c.shadow, .int .i64 c.dl, .int .i64 c.purse, .int .i64 c.ver, .int .i64 c.prio] 25) := ⟨_, rfl⟩
  rw [← hW3]
  have k7 : W3.heap[w2.heap.size]? = some (.cells #[.int .i64 c.req, .string c.call, .int .i64 c.try_, .bool c.idem, .bool c.shadow, .int .i64 c.dl, .int .i64 c.purse, .int .i64 c.ver, .int .i64 c.prio] 25 (0, 0)) := by rw [hW3]; exact heap_alloc_new _ _
  have hz3 : w2.heap.size < W3.heap.size := by rw [hW3]; simp
  have hb3 : Below w2.heap.size w2 W3 := by rw [hW3]; exact (Below.refl _ _).alloc (Nat.le_refl _) _
  obtain ⟨b7, hb7⟩ : ∃ b, b = w2.heap.size := ⟨_, rfl⟩
  rw [← hb7] at k7 hz3 ⊢
  have hb7a : w2.heap.size ≤ b7 := Nat.le_of_eq hb7.symm
  clear hb7
  have hb3' := btrans hb2' hb3
  refine (pol_any (H'.out.keep hb3') _).mono ?_
  rintro e w4 ⟨rfl, hb4⟩
  obtain ⟨q, hq⟩ : ∃ q, q = polOf p := ⟨_, rfl⟩
  have HQ := Lib.hid hq
  have hqb := polOf_bd p
  rw [← hq] at hqb ⊢
  have hz4 := hb4.size
  have m5 := (hb4.block _ (by omega)).trans ((hb3.block _ (by omega)).trans k5)
  have m6 := (hb4.block _ (by omega)).trans ((hb3.block _ (by omega)).trans k6)
  have m7 := (hb4.block _ (by omega)).trans k7
  have hb4' := btrans hb3' hb4
  dsimp only [polVal]
  have HQB := Lib.hid hqb
  clear hq k5 k6 k7 hW3 hb3 hb4 hb2' hb3' hqb
  go_wp2_with fail
  obtain ⟨W5, hW5⟩ : ∃ W5, W5 = w4.alloc (.cells #[.int .i64 q.tmo, .int .i64 q.tries, .int .i64 q.back, .int .i64 q.hedge, .int .i64 q.per, .int .i64 q.of, .int .i64 q.burst] 29) := ⟨_, rfl⟩
  rw [← hW5]
  have hb5 : Below w4.heap.size w4 W5 := by rw [hW5]; exact (Below.refl _ _).alloc (Nat.le_refl _) _
  have k8 : W5.heap[w4.heap.size]? = some (.cells #[.int .i64 q.tmo, .int .i64 q.tries, .int .i64 q.back, .int .i64 q.hedge, .int .i64 q.per, .int .i64 q.of, .int .i64 q.burst] 29 (0, 0)) := by rw [hW5]; exact heap_alloc_new _ _
  have hz5 : w4.heap.size < W5.heap.size := by rw [hW5]; simp
  obtain ⟨b8, hb8⟩ : ∃ b, b = w4.heap.size := ⟨_, rfl⟩
  rw [← hb8] at k8 hz5 ⊢
  have hb8a : w4.heap.size ≤ b8 := Nat.le_of_eq hb8.symm
  clear hb8
  refine (bnew_any _ _ _ _ (by have := HQB.out; omega) (by have := HQB.out; omega)).mono ?_
  rintro e w6 ⟨bb, rfl, hbb, hbk, hb6⟩
  have hz6 := hb6.size
  have n5 := (hb6.block _ (by omega)).trans ((hb5.block _ (by omega)).trans m5)
  have n6 := (hb6.block _ (by omega)).trans ((hb5.block _ (by omega)).trans m6)
  have n7 := (hb6.block _ (by omega)).trans ((hb5.block _ (by omega)).trans m7)
  have n8 := (hb6.block _ (by omega)).trans k8
  have hb6' := btrans (btrans hb4' hb5) hb6
  clear m5 m6 m7 k8 hb5 hb6 hb4' hW5
  go_wp2_with fail
  have N7 := Lib.hid n7
  have N8 := Lib.hid n8
  refine wp_region_held_drew (S := fun W => W.cell? ⟨b7, 0, none⟩ = some (.int .i64 c.req) ∧ W.cell? ⟨b7, 1, none⟩ = some (.string c.call) ∧ W.cell? ⟨b7, 2, none⟩ = some (.int .i64 c.try_) ∧ W.cell? ⟨b7, 3, none⟩ = some (.bool c.idem) ∧ W.cell? ⟨b7, 4, none⟩ = some (.bool c.shadow) ∧ W.cell? ⟨b7, 5, none⟩ = some (.int .i64 c.dl) ∧ W.cell? ⟨b7, 6, none⟩ = some (.int .i64 c.purse) ∧ W.cell? ⟨b7, 7, none⟩ = some (.int .i64 c.ver) ∧ W.cell? ⟨b7, 8, none⟩ = some (.int .i64 c.prio) ∧
    W.cell? ⟨b8, 0, none⟩ = some (.int .i64 q.tmo) ∧ W.cell? ⟨b8, 1, none⟩ = some (.int .i64 q.tries) ∧ W.cell? ⟨b8, 2, none⟩ = some (.int .i64 q.back) ∧ W.cell? ⟨b8, 3, none⟩ = some (.int .i64 q.hedge) ∧ W.cell? ⟨b8, 4, none⟩ = some (.int .i64 q.per) ∧ W.cell? ⟨b8, 5, none⟩ = some (.int .i64 q.of) ∧ W.cell? ⟨b8, 6, none⟩ = some (.int .i64 q.burst)) (by kernel_rfl) (see16 n7 n8) (fun hHeld => ?_)
  refine wpAnyH_take (i := 0) (v := ?_) rfl (by kernel_rfl) (by kernel_rfl) (by kernel_rfl) (fun _ _ _ h => h) (Or.inl ⟨by kernel_rfl, ?_⟩) (by assumption) ?_
  rotate_left
  · (intro w hSw; (try dsimp only at hSw); go_simp; try with_reducible rfl)
  try simp only [Act.put]
  refine wpAnyH_take (i := 1) (v := ?_) rfl (by kernel_rfl) (by kernel_rfl) (by kernel_rfl) (fun _ _ _ h => h) (Or.inl ⟨by kernel_rfl, ?_⟩) (by assumption) ?_
  rotate_left
  · (intro w hSw; (try dsimp only at hSw); go_simp; try with_reducible rfl)
  try simp only [Act.put]
  refine wpAnyH_take (i := 2) (v := ?_) rfl (by kernel_rfl) (by kernel_rfl) (by kernel_rfl) (fun _ _ _ h => h) (Or.inl ⟨by kernel_rfl, ?_⟩) (by assumption) ?_
  rotate_left
  · (intro w hSw; (try dsimp only at hSw); go_simp; try with_reducible rfl)
  try simp only [Act.put]
  refine wpAnyH_take (i := 4) (v := ?_) rfl (by kernel_rfl) (by kernel_rfl) (by kernel_rfl) (fun _ _ _ h => h) (Or.inl ⟨by kernel_rfl, ?_⟩) (by assumption) ?_
  rotate_left
  · (intro w hSw; (try dsimp only at hSw); go_simp; try with_reducible rfl)
  try simp only [Act.put]
  refine wpAnyH_take (i := 5) (v := ?_) rfl (by kernel_rfl) (by kernel_rfl) (by kernel_rfl) (fun _ _ _ h => h) (Or.inl ⟨by kernel_rfl, ?_⟩) (by assumption) ?_
  rotate_left
  · (intro w hSw; (try dsimp only at hSw); go_simp; try with_reducible rfl)
  try simp only [Act.put]
  refine wpAnyH_ready (rs := [3]) (by kernel_rfl) (by simp) ?_
  refine AllReadyH.cons rfl (fun K hK => ?_) AllReadyH.nil
  go_simp
  refine (cnew_any c q bb _).mono ?_
  rintro e w9 ⟨cb, mb, rfl, hcall, hcb, hmb, hb9⟩
  replace hb9 : Below w6.heap.size w6 w9 := bdrew hb9
  replace hcb : w6.heap.size ≤ cb := hcb
  replace hmb : w6.heap.size ≤ mb := hmb
  have hz9 := hb9.size
  have hbl : bb < w6.heap.size := (Array.getElem?_eq_some_iff.1 hbk).1
  have p5 := (hb9.block _ (by omega)).trans n5
  have p6 := (hb9.block _ (by omega)).trans n6
  have p7 := (hb9.block _ (by omega)).trans n7
  have p8 := (hb9.block _ (by omega)).trans n8
  have hbk9 := (hb9.block _ hbl).trans hbk
  have hb9' := btrans hb6' hb9
  refine hK.out _ _ (see16 p7 p8) (fun hHeld => ?_)
  clear hK K
  try simp only [Act.put]
  refine wpAnyH_ready (rs := [6]) (by kernel_rfl) (by simp) ?_
  refine AllReadyH.cons rfl (fun K hK => ?_) AllReadyH.nil
  go_simp
  refine hK.out _ _ (see16 p7 p8) (fun hHeld => ?_)
  clear hK K
  try simp only [Act.put]
  have k0 := block_cell p5 0 _ rfl
  have k1 := block_cell p5 1 _ rfl
  have k2 := block_cell p5 2 _ rfl
  have k3 := block_cell p5 3 _ rfl
  have k4 := block_cell p5 4 _ rfl
  have k5 := block_cell p5 5 _ rfl
  have k6 := block_cell p5 6 _ rfl
  have k7 := block_cell p5 7 _ rfl
  have k8 := block_cell p5 8 _ rfl
  have f0 := block_free p5 0
  have f1 := block_free p5 1
  have f2 := block_free p5 2
  have f3 := block_free p5 3
  have f4 := block_free p5 4
  have f5 := block_free p5 5
  have f6 := block_free p5 6
  have f7 := block_free p5 7
  have f8 := block_free p5 8
  refine wpAnyH_ready (rs := [7]) (by kernel_rfl) (by simp) ?_
  refine AllReadyH.cons rfl (fun K hK => ?_) AllReadyH.nil
  go_simp
  clear k0 k1 k2 k3 k4 k5 k6 k7 k8 f0 f1 f2 f3 f4 f5 f6 f7 f8
  obtain ⟨W10, hW10⟩ : ∃ W, W = setsFrom w9 w.heap.size 0 [.int .i64 c.req, .string c.call, .int .i64 c.try_, .bool c.idem, .bool c.shadow, .int .i64 c.dl, .int .i64 c.purse, .int .i64 c.ver, .int .i64 c.prio] := ⟨_, rfl⟩
  have q5 := setsFrom_block w.heap.size 25 [.int .i64 c.req, .string c.call, .int .i64 c.try_, .bool c.idem, .bool c.shadow, .int .i64 c.dl, .int .i64 c.purse, .int .i64 c.ver, .int .i64 c.prio] 0 w9 _ p5
  simp only [arrFrom, Nat.reduceAdd, List.setIfInBounds_toArray, List.set_cons_zero, List.set_cons_succ] at q5
  have q6 := (setsFrom_other w.heap.size (w.heap.size + 1) (by omega) [.int .i64 c.req, .string c.call, .int .i64 c.try_, .bool c.idem, .bool c.shadow, .int .i64 c.dl, .int .i64 c.purse, .int .i64 c.ver, .int .i64 c.prio] 0 w9).trans p6
  have q7 := (setsFrom_other w.heap.size b7 (by omega) [.int .i64 c.req, .string c.call, .int .i64 c.try_, .bool c.idem, .bool c.shadow, .int .i64 c.dl, .int .i64 c.purse, .int .i64 c.ver, .int .i64 c.prio] 0 w9).trans p7
  have q8 := (setsFrom_other w.heap.size b8 (by omega) [.int .i64 c.req, .string c.call, .int .i64 c.try_, .bool c.idem, .bool c.shadow, .int .i64 c.dl, .int .i64 c.purse, .int .i64 c.ver, .int .i64 c.prio] 0 w9).trans p8
  have qcall := hcall.keep (setsFrom_other w.heap.size cb (by omega) [.int .i64 c.req, .string c.call, .int .i64 c.try_, .bool c.idem, .bool c.shadow, .int .i64 c.dl, .int .i64 c.purse, .int .i64 c.ver, .int .i64 c.prio] 0 w9) (setsFrom_other w.heap.size mb (by omega) [.int .i64 c.req, .string c.call, .int .i64 c.try_, .bool c.idem, .bool c.shadow, .int .i64 c.dl, .int .i64 c.purse, .int .i64 c.ver, .int .i64 c.prio] 0 w9)
  have qbk := (setsFrom_other w.heap.size bb (by omega) [.int .i64 c.req, .string c.call, .int .i64 c.try_, .bool c.idem, .bool c.shadow, .int .i64 c.dl, .int .i64 c.purse, .int .i64 c.ver, .int .i64 c.prio] 0 w9).trans hbk9
  have qb := setsFrom_below w.heap.size (Nat.le_refl _) [.int .i64 c.req, .string c.call, .int .i64 c.try_, .bool c.idem, .bool c.shadow, .int .i64 c.dl, .int .i64 c.purse, .int .i64 c.ver, .int .i64 c.prio] 0 w9 hb9'
  rw [← hW10] at q5 q6 q7 q8 qcall qbk qb
  simp only [setsFrom, Nat.reduceAdd] at hW10
  rw [← hW10]
  clear hW10 p5 p6 p7 p8 hcall hbk9 hb9' n5 n6 n7 n8 N7 N8 hbk hb6' hb9
  refine hK.out _ _ (see16 q7 q8) (fun hHeld => ?_)
  clear hK K
  try simp only [Act.put]
  have k0 := block_cell q6 0 _ rfl
  have k1 := block_cell q6 1 _ rfl
  have k2 := block_cell q6 2 _ rfl
  have k3 := block_cell q6 3 _ rfl
  have k4 := block_cell q6 4 _ rfl
  have k5 := block_cell q6 5 _ rfl
  have k6 := block_cell q6 6 _ rfl
  have f0 := block_free q6 0
  have f1 := block_free q6 1
  have f2 := block_free q6 2
  have f3 := block_free q6 3
  have f4 := block_free q6 4
  have f5 := block_free q6 5
  have f6 := block_free q6 6
  refine wpAnyH_ready (rs := [8]) (by kernel_rfl) (by simp) ?_
  refine AllReadyH.cons rfl (fun K hK => ?_) AllReadyH.nil
  go_simp
  clear k0 k1 k2 k3 k4 k5 k6 f0 f1 f2 f3 f4 f5 f6
  obtain ⟨W11, hW11⟩ : ∃ W, W = setsFrom W10 (w.heap.size + 1) 0 [.int .i64 q.tmo, .int .i64 q.tries, .int .i64 q.back, .int .i64 q.hedge, .int .i64 q.per, .int .i64 q.of, .int .i64 q.burst] := ⟨_, rfl⟩
  have r6 := setsFrom_block (w.heap.size + 1) 29 [.int .i64 q.tmo, .int .i64 q.tries, .int .i64 q.back, .int .i64 q.hedge, .int .i64 q.per, .int .i64 q.of, .int .i64 q.burst] 0 W10 _ q6
  simp only [arrFrom, Nat.reduceAdd, List.setIfInBounds_toArray, List.set_cons_zero, List.set_cons_succ] at r6
  have r5 := (setsFrom_other (w.heap.size + 1) w.heap.size (by omega) [.int .i64 q.tmo, .int .i64 q.tries, .int .i64 q.back, .int .i64 q.hedge, .int .i64 q.per, .int .i64 q.of, .int .i64 q.burst] 0 W10).trans q5
  have r7 := (setsFrom_other (w.heap.size + 1) b7 (by omega) [.int .i64 q.tmo, .int .i64 q.tries, .int .i64 q.back, .int .i64 q.hedge, .int .i64 q.per, .int .i64 q.of, .int .i64 q.burst] 0 W10).trans q7
  have r8 := (setsFrom_other (w.heap.size + 1) b8 (by omega) [.int .i64 q.tmo, .int .i64 q.tries, .int .i64 q.back, .int .i64 q.hedge, .int .i64 q.per, .int .i64 q.of, .int .i64 q.burst] 0 W10).trans q8
  have rcall := qcall.keep (setsFrom_other (w.heap.size + 1) cb (by omega) [.int .i64 q.tmo, .int .i64 q.tries, .int .i64 q.back, .int .i64 q.hedge, .int .i64 q.per, .int .i64 q.of, .int .i64 q.burst] 0 W10) (setsFrom_other (w.heap.size + 1) mb (by omega) [.int .i64 q.tmo, .int .i64 q.tries, .int .i64 q.back, .int .i64 q.hedge, .int .i64 q.per, .int .i64 q.of, .int .i64 q.burst] 0 W10)
  have rbk := (setsFrom_other (w.heap.size + 1) bb (by omega) [.int .i64 q.tmo, .int .i64 q.tries, .int .i64 q.back, .int .i64 q.hedge, .int .i64 q.per, .int .i64 q.of, .int .i64 q.burst] 0 W10).trans qbk
  have rb := setsFrom_below (w.heap.size + 1) (Nat.le_succ _) [.int .i64 q.tmo, .int .i64 q.tries, .int .i64 q.back, .int .i64 q.hedge, .int .i64 q.per, .int .i64 q.of, .int .i64 q.burst] 0 W10 qb
  rw [← hW11] at r5 r6 r7 r8 rcall rbk rb
  simp only [setsFrom, Nat.reduceAdd] at hW11
  rw [← hW11]
  clear hW11 q5 q6 q7 q8 qcall qbk qb
  refine hK.out _ _ (see16 r7 r8) (fun hHeld => ?_)
  clear hK K
  try simp only [Act.put]
  refine wpAnyH_done (by kernel_rfl) ?_ _
  try simp only [Act.put]
  have HR5 := Lib.hid r5
  have HR6 := Lib.hid r6
  have HF : Hid (BegunTPost w l p (.returned (.tuple #[.pointer (some ⟨cb, 0, none⟩), cxVal c, polVal q])) W11) := by
    refine ⟨s, cb, mb, bb, hs, by rw [HC.out, HQ.out], ?_, ⟨by omega, by omega, by omega⟩, rb⟩
    rw [← HC.out, ← HQ.out]
    exact ⟨rcall, rbk, rcall.ne, by omega, by omega⟩
  clear hHeld r5 r6 r7 r8 rcall rbk rb
  go_wp2_with fail
  have r5 := HR5.out
  have r6 := HR6.out
  have k0 := block_cell r5 0 _ rfl
  have k1 := block_cell r5 1 _ rfl
  have k2 := block_cell r5 2 _ rfl
  have k3 := block_cell r5 3 _ rfl
  have k4 := block_cell r5 4 _ rfl
  have k5 := block_cell r5 5 _ rfl
  have k6 := block_cell r5 6 _ rfl
  have k7 := block_cell r5 7 _ rfl
  have k8 := block_cell r5 8 _ rfl
  have j0 := block_cell r6 0 _ rfl
  have j1 := block_cell r6 1 _ rfl
  have j2 := block_cell r6 2 _ rfl
  have j3 := block_cell r6 3 _ rfl
  have j4 := block_cell r6 4 _ rfl
  have j5 := block_cell r6 5 _ rfl
  have j6 := block_cell r6 6 _ rfl
  clear r5 r6
  exact bodyPost_ret (v := .tuple #[.pointer (some ⟨cb, 0, none⟩), cxVal c, polVal q]) (by simp [cxVal, polVal, results, Tryz.results4, go_sem, k0, k1, k2, k3, k4, k5, k6, k7, k8, j0, j1, j2, j3, j4, j5, j6]) rfl HF.out


end Go.Proofs.YtkpjjhiighakfaaGreatDoor
