/- A server: the document's example (printed by wip/tools/gen35s.py). -/
import Derived.Test.YtchjlkfkfcmhlaaDoorS34
namespace Go.Proofs.YtchjlkfkfcmhlaaDoor
open Go.RowKit
attribute [local go_sem ↓] Go.wp_at_zero Go.wp_at_succ

theorem Glob.new {w w' : World} {D : SD} (hM : MaxLenAt w) (hb : Below w.heap.size w w') (hn : ∀ b, D.who b ≠ 0 → w.heap.size ≤ b) : Glob w' D := by
  have hl := hM.lt
  obtain ⟨m, hm⟩ := hM
  refine ⟨⟨m, bkeep hb hm⟩, Classical.byContradiction fun hne => ?_⟩
  have := hn _ hne
  omega

set_option maxRecDepth 8000 in
set_option maxHeartbeats 8000000 in
theorem lives_any {w : World} (hM : MaxLenAt w) : Calls Tryd.prog 17 #[] w fun e w' => e = .returned (.bool true) ∧ Below w.heap.size w w' := by
  have hMD := made_any lifeS 10 w
  unfold lifeS svV svCells at hMD
  dsimp only at hMD
  have HMD := Lib.hid hMD
  have HM := Lib.hid hM
  clear hMD hM
  go_enter Tryd.func17, Tryd.ntmps17
  go_wp2_with fail
  refine HMD.out.mono ?_
  rintro e W1 ⟨sb, rfl, D1, sr1, ok1, ht1, hn1, b1⟩
  have HGL := Lib.hid (Glob.new HM.out b1 hn1)
  have HSR1 := Lib.hid sr1
  have HOK1 := Lib.hid ok1
  have HT1 := Lib.hid ht1
  have HN1 := Lib.hid hn1
  have HB1 := Lib.hid b1
  clear sr1 ok1 ht1 hn1 b1
  go_wp2_with fail
  obtain ⟨W2, hW2⟩ : ∃ W2, W1.alloc (.cells #[.int .i64 7, .string ⟨#[55]⟩, .int .i64 1, .bool false, .bool false, .int .i64 50, .int .i64 0, .int .i64 1, .int .i64 0] 31) = W2 := ⟨_, rfl⟩
  rw [hW2]
  have b2 : Below W1.heap.size W1 W2 := by rw [← hW2]; exact (Below.refl _ _).alloc (Nat.le_refl _) _
  have z2 : W2.heap[W1.heap.size]? = some (.cells #[.int .i64 7, .string ⟨#[55]⟩, .int .i64 1, .bool false, .bool false, .int .i64 50, .int .i64 0, .int .i64 1, .int .i64 0] 31 (0, 0)) := by rw [← hW2]; exact heap_alloc_new W1 _
  have hw0 : D1.who W1.heap.size = 0 := Classical.byContradiction fun hne => by have := HSR1.out.lt _ hne; omega
  have hCM := come_any (k := 0) ((HSR1.out.below b2).later (now' := 5) (by decide)) (HOK1.out.mono (by decide) (Nat.le_refl _)) (Nat.zero_le _) lifeC (by decide) (by decide)
  unfold lifeC cxV cxCells at hCM
  dsimp only at hCM
  have HCM := Lib.hid hCM
  have HZ2 := Lib.hid z2
  have HB2 := Lib.hid b2
  have HW0 := Lib.hid hw0
  have HLT := Lib.hid (show W1.heap.size < W2.heap.size by rw [← hW2]; simp)
  have x0 := block_cell z2 0 _ rfl
  have x1 := block_cell z2 1 _ rfl
  have x2 := block_cell z2 2 _ rfl
  have x3 := block_cell z2 3 _ rfl
  have x4 := block_cell z2 4 _ rfl
  have x5 := block_cell z2 5 _ rfl
  have x6 := block_cell z2 6 _ rfl
  have x7 := block_cell z2 7 _ rfl
  have x8 := block_cell z2 8 _ rfl
  clear hCM z2 b2 hw0 x0 x1 x2 x3 x4 x5 x6 x7 x8
  refine HCM.out.mono ?_
  rintro e W3 ⟨D3, outs3, v3, fresh3, rfl, sr3, ok3, mv3, ho3, hc3⟩
  obtain ⟨ht3, rfl, rfl⟩ := life_come (HT1.out ▸ hc3)
  have hG3 := HGL.out.mv ((Mv.pre HB2.out mv3))
  have hST := step_any (k := 1) sr3 hG3 ok3 (by decide) lifeS_ok (by decide) (by decide) false 0 1 (by decide)
  obtain ⟨ob3, hr3, _⟩ := ho3
  obtain ⟨la3, lc3, rfl⟩ := hr3.form
  have HST := Lib.hid hST
  have HM3 := Lib.hid (Mv.pre HB2.out mv3)
  have HT3 := Lib.hid ht3
  have HG3 := Lib.hid hG3
  have HZ3 : Hid (W3.heap[W1.heap.size]? = some (.cells #[.int .i64 7, .string ⟨#[55]⟩, .int .i64 1, .bool false, .bool false, .int .i64 50, .int .i64 0, .int .i64 1, .int .i64 0] 31 (0, 0))) := (mv3.keep0 HW0.out HLT.out).trans HZ2.out
  have HL3 : Hid (W1.heap.size < W3.heap.size) := Nat.lt_of_lt_of_le HLT.out mv3.1.size
  have HW3 : Hid (D3.who W1.heap.size = 0) := mv3.who0 HW0.out HLT.out
  clear hW2 hST mv3 hc3 sr3 ok3 ht3 hG3 hr3
  go_wp2_with fail
  refine HST.out.mono ?_
  rintro e W4 ⟨D4, outs4, v4, rfl, sr4, mv4, ho4, ok4, hs4, -⟩
  obtain ⟨ht4, rfl⟩ := life_step1 (HT3.out ▸ hs4)
  have hG4 := HG3.out.mv mv4
  have hST := step_any (k := 1) (sr4.later (now' := 6) (by decide)) hG4 (ok4.mono (by decide) (Nat.le_refl _)) (by decide) lifeS_ok (by decide) (by decide) false 0 1 (by decide)
  have HST2 := Lib.hid hST
  have HM4 := Lib.hid (HM3.out.trans mv4)
  have HMV4 := Lib.hid mv4
  have HT4 := Lib.hid ht4
  have HG4 := Lib.hid hG4
  have HO4 := Lib.hid ho4
  obtain ⟨ob4, hr4, _⟩ := ho4
  obtain ⟨la4, lc4, rfl⟩ := hr4.form
  clear hST mv4 hs4 sr4 ok4 ht4 hG4 hr4
  go_wp2_with fail
  refine HST2.out.mono ?_
  rintro e W5 ⟨D5, outs5, v5, rfl, sr5, mv5, ho5, ok5, hs5, -⟩
  obtain ⟨ht5, rfl⟩ := life_step2 (HT4.out ▸ hs5)
  have hG5 := HG4.out.mv mv5
  have hST := step_any (k := 1) (sr5.later (now' := 7) (by decide)) hG5 (ok5.mono (by decide) (Nat.le_refl _)) (by decide) lifeS_ok (by decide) (by decide) false 0 1 (by decide)
  have HST3 := Lib.hid hST
  have HMV5 := Lib.hid mv5
  have HT5 := Lib.hid ht5
  obtain ⟨ob5, hr5, _⟩ := ho5
  obtain ⟨la5, lc5, rfl⟩ := hr5.form
  clear hST mv5 hs5 sr5 ok5 ht5 hG5 hr5
  go_wp2_with fail
  refine HST3.out.mono ?_
  rintro e W6 ⟨D6, outs6, v6, rfl, sr6, mv6, ho6, ok6, hs6, -⟩
  obtain rfl := life_step3 (HT5.out ▸ hs6)
  have hm46 := HMV5.out.trans mv6
  have hA := HO4.out.mv hm46
  obtain ⟨obA, hrA, -⟩ := hA
  obtain ⟨ga, offa, lca, eA, -, hcA⟩ := hrA.cellsL (by simp)
  obtain ⟨ob6, hr6, -⟩ := ho6
  obtain ⟨gd, offd, lcd, eD, -, hcD⟩ := hr6.cellsL (by simp)
  injection eA with eA _ _
  subst eA eD
  have hqA := hcA W6 rfl 0 ⟨1, lifeC, false, 0⟩ rfl
  have hqD := hcD W6 rfl 0 ⟨2, lifeC, true, 0⟩ rfl
  have hm36 := HMV4.out.trans hm46
  have z6 := (hm36.keep0 HW3.out HL3.out).trans HZ3.out
  have HS : Hid (W6.cell? ⟨ga, offa, none⟩ = some (.int .i64 1) ∧ W6.cell? ⟨gd, offd, none⟩ = some (.int .i64 2) ∧ W6.cell? ⟨gd, offd + 10, none⟩ = some (.bool true) ∧ W6.cell? ⟨gd, offd + 1, none⟩ = some (.int .i64 7) ∧ W6.cell? ⟨gd, offd + 2, none⟩ = some (.string ⟨#[55]⟩) ∧ W6.cell? ⟨gd, offd + 3, none⟩ = some (.int .i64 1) ∧ W6.cell? ⟨gd, offd + 4, none⟩ = some (.bool false) ∧ W6.cell? ⟨gd, offd + 5, none⟩ = some (.bool false) ∧ W6.cell? ⟨gd, offd + 6, none⟩ = some (.int .i64 50) ∧ W6.cell? ⟨gd, offd + 7, none⟩ = some (.int .i64 0) ∧ W6.cell? ⟨gd, offd + 8, none⟩ = some (.int .i64 1) ∧ W6.cell? ⟨gd, offd + 9, none⟩ = some (.int .i64 0) ∧ W6.cell? ⟨W1.heap.size, 0, none⟩ = some (.int .i64 7) ∧ W6.cell? ⟨W1.heap.size, 1, none⟩ = some (.string ⟨#[55]⟩) ∧ W6.cell? ⟨W1.heap.size, 2, none⟩ = some (.int .i64 1) ∧ W6.cell? ⟨W1.heap.size, 3, none⟩ = some (.bool false) ∧ W6.cell? ⟨W1.heap.size, 4, none⟩ = some (.bool false) ∧ W6.cell? ⟨W1.heap.size, 5, none⟩ = some (.int .i64 50) ∧ W6.cell? ⟨W1.heap.size, 6, none⟩ = some (.int .i64 0) ∧ W6.cell? ⟨W1.heap.size, 7, none⟩ = some (.int .i64 1) ∧ W6.cell? ⟨W1.heap.size, 8, none⟩ = some (.int .i64 0)) :=
    ⟨hqA 0 _ rfl, hqD 0 _ rfl, hqD 10 _ rfl, hqD 1 _ rfl, hqD 2 _ rfl, hqD 3 _ rfl, hqD 4 _ rfl, hqD 5 _ rfl, hqD 6 _ rfl, hqD 7 _ rfl, hqD 8 _ rfl, hqD 9 _ rfl, block_cell z6 0 _ rfl, block_cell z6 1 _ rfl, block_cell z6 2 _ rfl, block_cell z6 3 _ rfl, block_cell z6 4 _ rfl, block_cell z6 5 _ rfl, block_cell z6 6 _ rfl, block_cell z6 7 _ rfl, block_cell z6 8 _ rfl⟩
  have hall := HM4.out.trans hm46
  have HF : Hid (Below w.heap.size w W6) := ((Fr.ofBelow (F := fun _ => False) HB1.out).trans hall.1 (fun b hb => .inr (HN1.out b hb))).toBelow fun _ _ h => h
  clear hm46 hrA hcA hr6 hcD hqA hqD hm36 z6 hall mv6 hs6 sr6 ok6
  go_wp2_with fail
  refine wp_region_held_drew (S := fun W => W.cell? ⟨ga, offa, none⟩ = some (.int .i64 1) ∧ W.cell? ⟨gd, offd, none⟩ = some (.int .i64 2) ∧ W.cell? ⟨gd, offd + 10, none⟩ = some (.bool true) ∧ W.cell? ⟨gd, offd + 1, none⟩ = some (.int .i64 7) ∧ W.cell? ⟨gd, offd + 2, none⟩ = some (.string ⟨#[55]⟩) ∧ W.cell? ⟨gd, offd + 3, none⟩ = some (.int .i64 1) ∧ W.cell? ⟨gd, offd + 4, none⟩ = some (.bool false) ∧ W.cell? ⟨gd, offd + 5, none⟩ = some (.bool false) ∧ W.cell? ⟨gd, offd + 6, none⟩ = some (.int .i64 50) ∧ W.cell? ⟨gd, offd + 7, none⟩ = some (.int .i64 0) ∧ W.cell? ⟨gd, offd + 8, none⟩ = some (.int .i64 1) ∧ W.cell? ⟨gd, offd + 9, none⟩ = some (.int .i64 0) ∧ W.cell? ⟨W1.heap.size, 0, none⟩ = some (.int .i64 7) ∧ W.cell? ⟨W1.heap.size, 1, none⟩ = some (.string ⟨#[55]⟩) ∧ W.cell? ⟨W1.heap.size, 2, none⟩ = some (.int .i64 1) ∧ W.cell? ⟨W1.heap.size, 3, none⟩ = some (.bool false) ∧ W.cell? ⟨W1.heap.size, 4, none⟩ = some (.bool false) ∧ W.cell? ⟨W1.heap.size, 5, none⟩ = some (.int .i64 50) ∧ W.cell? ⟨W1.heap.size, 6, none⟩ = some (.int .i64 0) ∧ W.cell? ⟨W1.heap.size, 7, none⟩ = some (.int .i64 1) ∧ W.cell? ⟨W1.heap.size, 8, none⟩ = some (.int .i64 0)) (by kernel_rfl) HS.out (fun hHeld => ?_)
  refine wpAnyH_take (i := 0) (v := ?_) rfl (by kernel_rfl) (by kernel_rfl) (by kernel_rfl) (fun _ _ _ h => h) (Or.inl ⟨by kernel_rfl, ?_⟩) (by assumption) ?_
  rotate_left
  · (intro w hSw; (try dsimp only at hSw); go_simp; (try rw [if_neg (by (try simp only [ByteArray.size_append]); omega)]); (try with_reducible rfl))
  try simp only [Act.put]
  refine wpAnyH_take (i := 1) (v := ?_) rfl (by kernel_rfl) (by kernel_rfl) (by kernel_rfl) (fun _ _ _ h => h) (Or.inl ⟨by kernel_rfl, ?_⟩) (by assumption) ?_
  rotate_left
  · (intro w hSw; (try dsimp only at hSw); go_simp; (try rw [if_neg (by (try simp only [ByteArray.size_append]); omega)]); (try with_reducible rfl))
  try simp only [Act.put]
  refine wpAnyH_take (i := 2) (v := ?_) rfl (by kernel_rfl) (by kernel_rfl) (by kernel_rfl) (fun _ _ _ h => h) (Or.inl ⟨by kernel_rfl, ?_⟩) (by assumption) ?_
  rotate_left
  · (intro w hSw; (try dsimp only at hSw); go_simp; (try rw [if_neg (by (try simp only [ByteArray.size_append]); omega)]); (try with_reducible rfl))
  try simp only [Act.put]
  refine wpAnyH_take (i := 3) (v := ?_) rfl (by kernel_rfl) (by kernel_rfl) (by kernel_rfl) (fun _ _ _ h => h) (Or.inl ⟨by kernel_rfl, ?_⟩) (by assumption) ?_
  rotate_left
  · (intro w hSw; (try dsimp only at hSw); go_simp; (try rw [if_neg (by (try simp only [ByteArray.size_append]); omega)]); (try with_reducible rfl))
  try simp only [Act.put]
  refine wpAnyH_take (i := 4) (v := ?_) rfl (by kernel_rfl) (by kernel_rfl) (by kernel_rfl) (fun _ _ _ h => h) (Or.inl ⟨by kernel_rfl, ?_⟩) (by assumption) ?_
  rotate_left
  · (intro w hSw; (try dsimp only at hSw); go_simp; (try rw [if_neg (by (try simp only [ByteArray.size_append]); omega)]); (try with_reducible rfl))
  try simp only [Act.put]
  refine wpAnyH_take (i := 5) (v := ?_) rfl (by kernel_rfl) (by kernel_rfl) (by kernel_rfl) (fun _ _ _ h => h) (Or.inl ⟨by kernel_rfl, ?_⟩) (by assumption) ?_
  rotate_left
  · (intro w hSw; (try dsimp only at hSw); go_simp; (try rw [if_neg (by (try simp only [ByteArray.size_append]); omega)]); (try with_reducible rfl))
  try simp only [Act.put]
  refine wpAnyH_take (i := 6) (v := ?_) rfl (by kernel_rfl) (by kernel_rfl) (by kernel_rfl) (fun _ _ _ h => h) (Or.inl ⟨by kernel_rfl, ?_⟩) (by assumption) ?_
  rotate_left
  · (intro w hSw; (try dsimp only at hSw); go_simp; (try rw [if_neg (by (try simp only [ByteArray.size_append]); omega)]); (try with_reducible rfl))
  try simp only [Act.put]
  refine wpAnyH_take (i := 7) (v := ?_) rfl (by kernel_rfl) (by kernel_rfl) (by kernel_rfl) (fun _ _ _ h => h) (Or.inl ⟨by kernel_rfl, ?_⟩) (by assumption) ?_
  rotate_left
  · (intro w hSw; (try dsimp only at hSw); go_simp; (try rw [if_neg (by (try simp only [ByteArray.size_append]); omega)]); (try with_reducible rfl))
  try simp only [Act.put]
  refine wpAnyH_take (i := 8) (v := ?_) rfl (by kernel_rfl) (by kernel_rfl) (by kernel_rfl) (fun _ _ _ h => h) (Or.inl ⟨by kernel_rfl, ?_⟩) (by assumption) ?_
  rotate_left
  · (intro w hSw; (try dsimp only at hSw); go_simp; (try rw [if_neg (by (try simp only [ByteArray.size_append]); omega)]); (try with_reducible rfl))
  try simp only [Act.put]
  refine wpAnyH_take (i := 9) (v := ?_) rfl (by kernel_rfl) (by kernel_rfl) (by kernel_rfl) (fun _ _ _ h => h) (Or.inl ⟨by kernel_rfl, ?_⟩) (by assumption) ?_
  rotate_left
  · (intro w hSw; (try dsimp only at hSw); go_simp; (try rw [if_neg (by (try simp only [ByteArray.size_append]); omega)]); (try with_reducible rfl))
  try simp only [Act.put]
  refine wpAnyH_take (i := 10) (v := ?_) rfl (by kernel_rfl) (by kernel_rfl) (by kernel_rfl) (fun _ _ _ h => h) (Or.inl ⟨by kernel_rfl, ?_⟩) (by assumption) ?_
  rotate_left
  · (intro w hSw; (try dsimp only at hSw); go_simp; (try rw [if_neg (by (try simp only [ByteArray.size_append]); omega)]); (try with_reducible rfl))
  try simp only [Act.put]
  refine wpAnyH_take (i := 11) (v := ?_) rfl (by kernel_rfl) (by kernel_rfl) (by kernel_rfl) (fun _ _ _ h => h) (Or.inl ⟨by kernel_rfl, ?_⟩) (by assumption) ?_
  rotate_left
  · (intro w hSw; (try dsimp only at hSw); go_simp; (try rw [if_neg (by (try simp only [ByteArray.size_append]); omega)]); (try with_reducible rfl))
  try simp only [Act.put]
  refine wpAnyH_take (i := 12) (v := ?_) rfl (by kernel_rfl) (by kernel_rfl) (by kernel_rfl) (fun _ _ _ h => h) (Or.inl ⟨by kernel_rfl, ?_⟩) (by assumption) ?_
  rotate_left
  · (intro w hSw; (try dsimp only at hSw); go_simp; (try rw [if_neg (by (try simp only [ByteArray.size_append]); omega)]); (try with_reducible rfl))
  try simp only [Act.put]
  refine wpAnyH_take (i := 13) (v := ?_) rfl (by kernel_rfl) (by kernel_rfl) (by kernel_rfl) (fun _ _ _ h => h) (Or.inl ⟨by kernel_rfl, ?_⟩) (by assumption) ?_
  rotate_left
  · (intro w hSw; (try dsimp only at hSw); go_simp; (try rw [if_neg (by (try simp only [ByteArray.size_append]); omega)]); (try with_reducible rfl))
  try simp only [Act.put]
  refine wpAnyH_take (i := 14) (v := ?_) rfl (by kernel_rfl) (by kernel_rfl) (by kernel_rfl) (fun _ _ _ h => h) (Or.inl ⟨by kernel_rfl, ?_⟩) (by assumption) ?_
  rotate_left
  · (intro w hSw; (try dsimp only at hSw); go_simp; (try rw [if_neg (by (try simp only [ByteArray.size_append]); omega)]); (try with_reducible rfl))
  try simp only [Act.put]
  refine wpAnyH_take (i := 15) (v := ?_) rfl (by kernel_rfl) (by kernel_rfl) (by kernel_rfl) (fun _ _ _ h => h) (Or.inl ⟨by kernel_rfl, ?_⟩) (by assumption) ?_
  rotate_left
  · (intro w hSw; (try dsimp only at hSw); go_simp; (try rw [if_neg (by (try simp only [ByteArray.size_append]); omega)]); (try with_reducible rfl))
  try simp only [Act.put]
  refine wpAnyH_take (i := 16) (v := ?_) rfl (by kernel_rfl) (by kernel_rfl) (by kernel_rfl) (fun _ _ _ h => h) (Or.inl ⟨by kernel_rfl, ?_⟩) (by assumption) ?_
  rotate_left
  · (intro w hSw; (try dsimp only at hSw); go_simp; (try rw [if_neg (by (try simp only [ByteArray.size_append]); omega)]); (try with_reducible rfl))
  try simp only [Act.put]
  refine wpAnyH_take (i := 17) (v := ?_) rfl (by kernel_rfl) (by kernel_rfl) (by kernel_rfl) (fun _ _ _ h => h) (Or.inl ⟨by kernel_rfl, ?_⟩) (by assumption) ?_
  rotate_left
  · (intro w hSw; (try dsimp only at hSw); go_simp; (try rw [if_neg (by (try simp only [ByteArray.size_append]); omega)]); (try with_reducible rfl))
  try simp only [Act.put]
  refine wpAnyH_take (i := 18) (v := ?_) rfl (by kernel_rfl) (by kernel_rfl) (by kernel_rfl) (fun _ _ _ h => h) (Or.inl ⟨by kernel_rfl, ?_⟩) (by assumption) ?_
  rotate_left
  · (intro w hSw; (try dsimp only at hSw); go_simp; (try rw [if_neg (by (try simp only [ByteArray.size_append]); omega)]); (try with_reducible rfl))
  try simp only [Act.put]
  refine wpAnyH_take (i := 19) (v := ?_) rfl (by kernel_rfl) (by kernel_rfl) (by kernel_rfl) (fun _ _ _ h => h) (Or.inl ⟨by kernel_rfl, ?_⟩) (by assumption) ?_
  rotate_left
  · (intro w hSw; (try dsimp only at hSw); go_simp; (try rw [if_neg (by (try simp only [ByteArray.size_append]); omega)]); (try with_reducible rfl))
  try simp only [Act.put]
  refine wpAnyH_take (i := 20) (v := ?_) rfl (by kernel_rfl) (by kernel_rfl) (by kernel_rfl) (fun _ _ _ h => h) (Or.inl ⟨by kernel_rfl, ?_⟩) (by assumption) ?_
  rotate_left
  · (intro w hSw; (try dsimp only at hSw); go_simp; (try rw [if_neg (by (try simp only [ByteArray.size_append]); omega)]); (try with_reducible rfl))
  try simp only [Act.put]
  refine wpAnyH_take (i := 21) (v := ?_) rfl (by kernel_rfl) (by kernel_rfl) (by kernel_rfl) (fun _ _ _ h => h) (Or.inl ⟨by kernel_rfl, ?_⟩) (by assumption) ?_
  rotate_left
  · (intro w hSw; (try dsimp only at hSw); go_simp; (try rw [if_neg (by (try simp only [ByteArray.size_append]); omega)]); (try with_reducible rfl))
  try simp only [Act.put]
  refine wpAnyH_take (i := 22) (v := ?_) rfl (by kernel_rfl) (by kernel_rfl) (by kernel_rfl) (fun _ _ _ h => h) (Or.inl ⟨by kernel_rfl, ?_⟩) (by assumption) ?_
  rotate_left
  · (intro w hSw; (try dsimp only at hSw); go_simp; (try rw [if_neg (by (try simp only [ByteArray.size_append]); omega)]); (try with_reducible rfl))
  try simp only [Act.put]
  refine wpAnyH_take (i := 23) (v := ?_) rfl (by kernel_rfl) (by kernel_rfl) (by kernel_rfl) (fun _ _ _ h => h) (Or.inl ⟨by kernel_rfl, ?_⟩) (by assumption) ?_
  rotate_left
  · (intro w hSw; (try dsimp only at hSw); go_simp; (try rw [if_neg (by (try simp only [ByteArray.size_append]); omega)]); (try with_reducible rfl))
  try simp only [Act.put]
  refine wpAnyH_take (i := 24) (v := ?_) rfl (by kernel_rfl) (by kernel_rfl) (by kernel_rfl) (fun _ _ _ h => h) (Or.inl ⟨by kernel_rfl, ?_⟩) (by assumption) ?_
  rotate_left
  · (intro w hSw; (try dsimp only at hSw); go_simp; (try rw [if_neg (by (try simp only [ByteArray.size_append]); omega)]); (try with_reducible rfl))
  try simp only [Act.put]
  refine wpAnyH_take (i := 25) (v := ?_) rfl (by kernel_rfl) (by kernel_rfl) (by kernel_rfl) (fun _ _ _ h => h) (Or.inl ⟨by kernel_rfl, ?_⟩) (by assumption) ?_
  rotate_left
  · (intro w hSw; (try dsimp only at hSw); go_simp; (try rw [if_neg (by (try simp only [ByteArray.size_append]); omega)]); (try with_reducible rfl))
  try simp only [Act.put]
  refine wpAnyH_take (i := 26) (v := ?_) rfl (by kernel_rfl) (by kernel_rfl) (by kernel_rfl) (fun _ _ _ h => h) (Or.inl ⟨by kernel_rfl, ?_⟩) (by assumption) ?_
  rotate_left
  · (intro w hSw; (try dsimp only at hSw); go_simp; (try rw [if_neg (by (try simp only [ByteArray.size_append]); omega)]); (try with_reducible rfl))
  try simp only [Act.put]
  refine wpAnyH_take (i := 27) (v := ?_) rfl (by kernel_rfl) (by kernel_rfl) (by kernel_rfl) (fun _ _ _ h => h) (Or.inl ⟨by kernel_rfl, ?_⟩) (by assumption) ?_
  rotate_left
  · (intro w hSw; (try dsimp only at hSw); go_simp; (try rw [if_neg (by (try simp only [ByteArray.size_append]); omega)]); (try with_reducible rfl))
  try simp only [Act.put]
  refine wpAnyH_take (i := 28) (v := ?_) rfl (by kernel_rfl) (by kernel_rfl) (by kernel_rfl) (fun _ _ _ h => h) (Or.inl ⟨by kernel_rfl, ?_⟩) (by assumption) ?_
  rotate_left
  · (intro w hSw; (try dsimp only at hSw); go_simp; (try rw [if_neg (by (try simp only [ByteArray.size_append]); omega)]); (try with_reducible rfl))
  try simp only [Act.put]
  refine wpAnyH_take (i := 29) (v := ?_) rfl (by kernel_rfl) (by kernel_rfl) (by kernel_rfl) (fun _ _ _ h => h) (Or.inl ⟨by kernel_rfl, ?_⟩) (by assumption) ?_
  rotate_left
  · (intro w hSw; (try dsimp only at hSw); go_simp; (try rw [if_neg (by (try simp only [ByteArray.size_append]); omega)]); (try with_reducible rfl))
  try simp only [Act.put]
  refine wpAnyH_take (i := 30) (v := ?_) rfl (by kernel_rfl) (by kernel_rfl) (by kernel_rfl) (fun _ _ _ h => h) (Or.inl ⟨by kernel_rfl, ?_⟩) (by assumption) ?_
  rotate_left
  · (intro w hSw; (try dsimp only at hSw); go_simp; (try rw [if_neg (by (try simp only [ByteArray.size_append]); omega)]); (try with_reducible rfl))
  try simp only [Act.put]
  refine wpAnyH_take (i := 31) (v := ?_) rfl (by kernel_rfl) (by kernel_rfl) (by kernel_rfl) (fun _ _ _ h => h) (Or.inl ⟨by kernel_rfl, ?_⟩) (by assumption) ?_
  rotate_left
  · (intro w hSw; (try dsimp only at hSw); go_simp; (try rw [if_neg (by (try simp only [ByteArray.size_append]); omega)]); (try with_reducible rfl))
  try simp only [Act.put]
  refine wpAnyH_take (i := 32) (v := ?_) rfl (by kernel_rfl) (by kernel_rfl) (by kernel_rfl) (fun _ _ _ h => h) (Or.inl ⟨by kernel_rfl, ?_⟩) (by assumption) ?_
  rotate_left
  · (intro w hSw; (try dsimp only at hSw); go_simp; (try rw [if_neg (by (try simp only [ByteArray.size_append]); omega)]); (try with_reducible rfl))
  try simp only [Act.put]
  refine wpAnyH_take (i := 33) (v := ?_) rfl (by kernel_rfl) (by kernel_rfl) (by kernel_rfl) (fun _ _ _ h => h) (Or.inl ⟨by kernel_rfl, ?_⟩) (by assumption) ?_
  rotate_left
  · (intro w hSw; (try dsimp only at hSw); go_simp; (try rw [if_neg (by (try simp only [ByteArray.size_append]); omega)]); (try with_reducible rfl))
  try simp only [Act.put]
  refine wpAnyH_take (i := 34) (v := ?_) rfl (by kernel_rfl) (by kernel_rfl) (by kernel_rfl) (fun _ _ _ h => h) (Or.inl ⟨by kernel_rfl, ?_⟩) (by assumption) ?_
  rotate_left
  · (intro w hSw; (try dsimp only at hSw); go_simp; (try rw [if_neg (by (try simp only [ByteArray.size_append]); omega)]); (try with_reducible rfl))
  try simp only [Act.put]
  refine wpAnyH_take (i := 35) (v := ?_) rfl (by kernel_rfl) (by kernel_rfl) (by kernel_rfl) (fun _ _ _ h => h) (Or.inl ⟨by kernel_rfl, ?_⟩) (by assumption) ?_
  rotate_left
  · (intro w hSw; (try dsimp only at hSw); go_simp; (try rw [if_neg (by (try simp only [ByteArray.size_append]); omega)]); (try with_reducible rfl))
  try simp only [Act.put]
  refine wpAnyH_take (i := 36) (v := ?_) rfl (by kernel_rfl) (by kernel_rfl) (by kernel_rfl) (fun _ _ _ h => h) (Or.inl ⟨by kernel_rfl, ?_⟩) (by assumption) ?_
  rotate_left
  · (intro w hSw; (try dsimp only at hSw); go_simp; (try rw [if_neg (by (try simp only [ByteArray.size_append]); omega)]); (try with_reducible rfl))
  try simp only [Act.put]
  refine wpAnyH_take (i := 37) (v := ?_) rfl (by kernel_rfl) (by kernel_rfl) (by kernel_rfl) (fun _ _ _ h => h) (Or.inl ⟨by kernel_rfl, ?_⟩) (by assumption) ?_
  rotate_left
  · (intro w hSw; (try dsimp only at hSw); go_simp; (try rw [if_neg (by (try simp only [ByteArray.size_append]); omega)]); (try with_reducible rfl))
  try simp only [Act.put]
  refine wpAnyH_take (i := 38) (v := ?_) rfl (by kernel_rfl) (by kernel_rfl) (by kernel_rfl) (fun _ _ _ h => h) (Or.inl ⟨by kernel_rfl, ?_⟩) (by assumption) ?_
  rotate_left
  · (intro w hSw; (try dsimp only at hSw); go_simp; (try rw [if_neg (by (try simp only [ByteArray.size_append]); omega)]); (try with_reducible rfl))
  try simp only [Act.put]
  refine wpAnyH_take (i := 39) (v := ?_) rfl (by kernel_rfl) (by kernel_rfl) (by kernel_rfl) (fun _ _ _ h => h) (Or.inl ⟨by kernel_rfl, ?_⟩) (by assumption) ?_
  rotate_left
  · (intro w hSw; (try dsimp only at hSw); go_simp; (try rw [if_neg (by (try simp only [ByteArray.size_append]); omega)]); (try with_reducible rfl))
  try simp only [Act.put]
  refine wpAnyH_take (i := 40) (v := ?_) rfl (by kernel_rfl) (by kernel_rfl) (by kernel_rfl) (fun _ _ _ h => h) (Or.inl ⟨by kernel_rfl, ?_⟩) (by assumption) ?_
  rotate_left
  · (intro w hSw; (try dsimp only at hSw); go_simp; (try rw [if_neg (by (try simp only [ByteArray.size_append]); omega)]); (try with_reducible rfl))
  try simp only [Act.put]
  refine wpAnyH_take (i := 41) (v := ?_) rfl (by kernel_rfl) (by kernel_rfl) (by kernel_rfl) (fun _ _ _ h => h) (Or.inl ⟨by kernel_rfl, ?_⟩) (by assumption) ?_
  rotate_left
  · (intro w hSw; (try dsimp only at hSw); go_simp; (try rw [if_neg (by (try simp only [ByteArray.size_append]); omega)]); (try with_reducible rfl))
  try simp only [Act.put]
  refine wpAnyH_take (i := 42) (v := ?_) rfl (by kernel_rfl) (by kernel_rfl) (by kernel_rfl) (fun _ _ _ h => h) (Or.inl ⟨by kernel_rfl, ?_⟩) (by assumption) ?_
  rotate_left
  · (intro w hSw; (try dsimp only at hSw); go_simp; (try rw [if_neg (by (try simp only [ByteArray.size_append]); omega)]); (try with_reducible rfl))
  try simp only [Act.put]
  refine wpAnyH_take (i := 43) (v := ?_) rfl (by kernel_rfl) (by kernel_rfl) (by kernel_rfl) (fun _ _ _ h => h) (Or.inl ⟨by kernel_rfl, ?_⟩) (by assumption) ?_
  rotate_left
  · (intro w hSw; (try dsimp only at hSw); go_simp; (try rw [if_neg (by (try simp only [ByteArray.size_append]); omega)]); (try with_reducible rfl))
  try simp only [Act.put]
  refine wpAnyH_take (i := 44) (v := ?_) rfl (by kernel_rfl) (by kernel_rfl) (by kernel_rfl) (fun _ _ _ h => h) (Or.inl ⟨by kernel_rfl, ?_⟩) (by assumption) ?_
  rotate_left
  · (intro w hSw; (try dsimp only at hSw); go_simp; (try rw [if_neg (by (try simp only [ByteArray.size_append]); omega)]); (try with_reducible rfl))
  try simp only [Act.put]
  refine wpAnyH_done (by kernel_rfl) ?_ _
  try simp only [Act.put]
  clear hHeld
  go_simp
  go_wp2_with fail
  go_ret
  exact ⟨rfl, HF.out.drew⟩

end Go.Proofs.YtchjlkfkfcmhlaaDoor
