/- Most. -/
import Derived.Test.YtipmajcefcfnlaaB38
namespace Go.Proofs.Ytipmajcefcfnlaa
open Go.RowKit
attribute [local go_sem ↓] Go.wp_at_zero Go.wp_at_succ

set_option maxRecDepth 8000 in
set_option maxHeartbeats 1000000 in
theorem most_any (per of burst calls : Int) (w : World) (hc : 0 ≤ calls ∧ calls ≤ 6) (hp : 0 ≤ per ∧ per ≤ 4) (ho : 1 ≤ of ∧ of ≤ 7) (hb : 0 ≤ burst ∧ burst ≤ 5) :
    Calls Try.prog 27 #[.agg #[.int .i64 per, .int .i64 of, .int .i64 burst], .int .i64 calls] w fun e w' => e = .returned (.int .i64 (burst + calls * per / of)) ∧ Below w.heap.size w w' := by
  have hmu : 0 ≤ calls * per ∧ calls * per ≤ 24 := by
    rcases (show per = 0 ∨ per = 1 ∨ per = 2 ∨ per = 3 ∨ per = 4 by omega) with e | e | e | e | e <;> rw [e] <;> omega
  have HP := Lib.hid (fun W => part_any calls per of W hc hp ho)
  obtain ⟨z, hz⟩ : ∃ z, z = calls * per / of := ⟨_, rfl⟩
  have hz0 : 0 ≤ z := by rw [hz]; exact Int.ediv_nonneg hmu.1 (by omega)
  have hz1 : z ≤ 24 := by rw [hz]; have := Int.ediv_le_self of hmu.1; omega
  rw [← hz] at HP ⊢
  obtain ⟨o0, o1⟩ := ho
  obtain ⟨b0, b1⟩ := hb
  have t1 : decide (of < 1) = false := decide_eq_false (by omega)
  have hbb : ∀ ob, Below w.heap.size w (w.alloc ob) := fun ob => (Below.refl _ _).alloc (Nat.le_refl _) ob
  have HBB := Lib.hid hbb
  have g1 : IntKind.i64.wrap (burst + z) = burst + z := IntWalk.i64_in _ (by omega)
  clear hz hmu hbb
  go_enter Try.func27, Try.ntmps27
  go_wp2_with fail
  obtain ⟨W, hW⟩ : ∃ W, W = w.alloc (.cells #[.int .i64 per, .int .i64 of, .int .i64 burst] 27) := ⟨_, rfl⟩
  rw [← hW]
  have hk : W.heap[w.heap.size]? = some (.cells #[.int .i64 per, .int .i64 of, .int .i64 burst] 27 (0, 0)) := by rw [hW]; exact heap_alloc_new _ _
  have HW : Hid (Below w.heap.size w W) := by rw [hW]; exact HBB.out _
  obtain ⟨b, hbq⟩ : ∃ b, b = w.heap.size := ⟨_, rfl⟩
  rw [← hbq] at hk ⊢
  have c0 := block_cell hk 0 _ rfl
  have c1 := block_cell hk 1 _ rfl
  have c2 := block_cell hk 2 _ rfl
  clear hW hk hbq
  refine wp_region_held_drew (S := fun w' => w'.cell? ⟨b, 0, none⟩ = some (.int .i64 per) ∧ w'.cell? ⟨b, 1, none⟩ = some (.int .i64 of) ∧ w'.cell? ⟨b, 2, none⟩ = some (.int .i64 burst)) (by kernel_rfl) ⟨c0, c1, c2⟩ (fun hHeld => ?_)
  refine wpAnyH_take (i := 0) (v := ?_) rfl (by kernel_rfl) (by kernel_rfl) (by kernel_rfl) (fun _ _ _ h => h) (Or.inl ⟨by rfl, ?_⟩) (by assumption) ?_
  rotate_left
  · (intro w hSw; (try dsimp only at hSw); go_simp; try with_reducible rfl)
  try simp only [Act.put]
  refine wpAnyH_take (i := 1) (v := ?_) rfl (by kernel_rfl) (by kernel_rfl) (by kernel_rfl) (fun _ _ _ h => h) (Or.inl ⟨by rfl, ?_⟩) (by assumption) ?_
  rotate_left
  · (intro w hSw; (try dsimp only at hSw); go_simp; try with_reducible rfl)
  try simp only [Act.put]
  refine wpAnyH_take (i := 2) (v := ?_) rfl (by kernel_rfl) (by kernel_rfl) (by kernel_rfl) (fun _ _ _ h => h) (Or.inl ⟨by rfl, ?_⟩) (by assumption) ?_
  rotate_left
  · (intro w hSw; (try dsimp only at hSw); go_simp; try with_reducible rfl)
  try simp only [Act.put]
  refine wpAnyH_take (i := 3) (v := ?_) rfl (by kernel_rfl) (by kernel_rfl) (by kernel_rfl) (fun _ _ _ h => h) (Or.inl ⟨by rfl, ?_⟩) (by assumption) ?_
  rotate_left
  · (intro w hSw; (try dsimp only at hSw); go_simp; try with_reducible rfl)
  try simp only [Act.put]
  refine wpAnyH_take (i := 4) (v := ?_) rfl (by kernel_rfl) (by kernel_rfl) (by kernel_rfl) (fun _ _ _ h => h) (Or.inl ⟨by rfl, ?_⟩) (by assumption) ?_
  rotate_left
  · (intro w hSw; (try dsimp only at hSw); go_simp; try with_reducible rfl)
  try simp only [Act.put]
  refine wpAnyH_take (i := 5) (v := ?_) rfl (by kernel_rfl) (by kernel_rfl) (by kernel_rfl) (fun _ _ _ h => h) (Or.inl ⟨by rfl, ?_⟩) (by assumption) ?_
  rotate_left
  · (intro w hSw; (try dsimp only at hSw); go_simp; try with_reducible rfl)
  try simp only [Act.put]
  refine wpAnyH_take (i := 6) (v := ?_) rfl (by kernel_rfl) (by kernel_rfl) (by kernel_rfl) (fun _ _ _ h => h) (Or.inl ⟨by rfl, ?_⟩) (by assumption) ?_
  rotate_left
  · (intro w hSw; (try dsimp only at hSw); go_simp; try with_reducible rfl)
  try simp only [Act.put]
  refine wpAnyH_ready (rs := [7]) (by kernel_rfl) (by simp) ?_
  refine AllReadyH.cons rfl (fun K hK => ?_) AllReadyH.nil
  go_simp
  refine (HP.out _).mono ?_
  rintro e w' ⟨rfl, hbp⟩
  replace hbp := bdrew hbp
  refine hK.out _ _ (⟨bkeep hbp c0, bkeep hbp c1, bkeep hbp c2⟩) (fun hHeld => ?_)
  clear hK K
  try simp only [Act.put]
  refine wpAnyH_take (i := 8) (v := ?_) rfl (by kernel_rfl) (by kernel_rfl) (by kernel_rfl) (fun _ _ _ h => h) (Or.inl ⟨by rfl, ?_⟩) (by assumption) ?_
  rotate_left
  · (intro w hSw; (try dsimp only at hSw); go_simp; try with_reducible rfl)
  try simp only [Act.put]
  refine wpAnyH_ready (rs := [9]) (by kernel_rfl) (by simp) ?_
  refine AllReadyH.cons rfl (fun K hK => ?_) AllReadyH.nil
  go_simp
  refine hK.out _ _ (⟨bkeep hbp c0, bkeep hbp c1, bkeep hbp c2⟩) (fun hHeld => ?_)
  clear hK K
  try simp only [Act.put]
  refine wpAnyH_done (by kernel_rfl) ?_ _
  try simp only [Act.put]
  have HFIN := Lib.hid (btrans HW.out hbp)
  clear hbp hHeld
  go_wp2_with fail
  go_ret
  exact ⟨rfl, HFIN.out⟩

end Go.Proofs.Ytipmajcefcfnlaa
