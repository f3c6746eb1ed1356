/- purse.Split. -/
import Derived.Test.YtjollcacgnfabaaDoorDig
import Derived.Test.YtjollcacgnfabaaDoorSame
import Derived.Laws.OwnMore
namespace Go.Proofs.YtjollcacgnfabaaDoor
open Go.RowKit
attribute [local go_sem ↓] Go.wp_at_zero Go.wp_at_succ

def share (n : Int) (k i : Nat) : Int := n / k + if (i : Int) < n % k then 1 else 0
def splitL (n : Int) (k : Nat) : List Int := (List.range k).map (share n k)
theorem splitL_length (n : Int) (k : Nat) : (splitL n k).length = k := by simp [splitL]
theorem splitL_get (n : Int) (k j : Nat) (h : j < k) : (splitL n k)[j]? = some (share n k j) := by simp [splitL, List.getElem?_range h]

structure SplInv (w wr : World) (n : Int) (k i : Nat) : Prop where
  row : ∃ cur, wr.heap[w.heap.size]? = some (.cells cur 3 (0, 0)) ∧ cur.size = k ∧ ∀ j, j < k → cur[j]? = some (.int .i64 (if j < i then share n k j else 0))
  below : Below w.heap.size w wr

/-- A row of numbers that is new. -/
def NewInts (w : World) (l : List Int) (e : Ending) (w' : World) : Prop := ∃ v sb, e = .returned v ∧ IntsAt w' v l sb ∧ (∀ g, sb = some g → w.heap.size ≤ g) ∧ Below w.heap.size w w'

theorem div_bd (n : Int) (k : Nat) (h0 : 0 ≤ n) (h1 : n ≤ 2147483647) (hk : 1 ≤ k) : 0 ≤ n / k ∧ n / k ≤ 2147483647 :=
  ⟨Int.ediv_nonneg h0 (by omega), Int.le_trans (Int.ediv_le_self _ h0) h1⟩

theorem SplInv.step {w wr : World} {n : Int} {k i : Nat} (h : SplInv w wr n k i) (hi : i < k) {x : Int} (hx : share n k i = x) (w' : World) (hw : w' = wr.setCell ⟨w.heap.size, i, none⟩ (.int .i64 x)) : SplInv w w' n k (i + 1) := by
  subst hw hx
  obtain ⟨⟨cur, h1, h2, h3⟩, hb⟩ := h
  refine ⟨⟨_, setCell_block wr w.heap.size i cur _ _ _ h1, by simp [h2], fun j hj => ?_⟩, hb.setCell (p := ⟨w.heap.size, i, none⟩) (Nat.le_refl _) _⟩
  rw [Array.getElem?_setIfInBounds]
  by_cases e : i = j
  · subst e; rw [if_pos rfl, if_pos (by omega), if_pos (by omega)]
  · rw [if_neg e, h3 j hj]
    by_cases e2 : j < i
    · rw [if_pos e2, if_pos (by omega)]
    · rw [if_neg e2, if_neg (by omega)]

theorem SplInv.step2 {w wr : World} {n : Int} {k i : Nat} (h : SplInv w wr n k i) (hi : i < k) {x : Int} (hx : share n k i = x) (y : Value) : SplInv w ((wr.setCell ⟨w.heap.size, i, none⟩ y).setCell ⟨w.heap.size, i, none⟩ (.int .i64 x)) n k (i + 1) := by
  subst hx
  obtain ⟨⟨cur, h1, h2, h3⟩, hb⟩ := h
  refine ⟨⟨_, setCell_block _ w.heap.size i _ _ _ _ (setCell_block wr w.heap.size i cur _ _ y h1), by simp [h2], fun j hj => ?_⟩, (hb.setCell (p := ⟨w.heap.size, i, none⟩) (Nat.le_refl _) _).setCell (p := ⟨w.heap.size, i, none⟩) (Nat.le_refl _) _⟩
  rw [Array.getElem?_setIfInBounds]
  by_cases e : i = j
  · subst e; rw [if_pos rfl, if_pos (by simp; omega), if_pos (by omega)]
  · rw [if_neg e, Array.getElem?_setIfInBounds, if_neg e, h3 j hj]
    by_cases e2 : j < i
    · rw [if_pos e2, if_pos (by omega)]
    · rw [if_neg e2, if_neg (by omega)]

theorem SplInv.done {w wr : World} {n : Int} {k : Nat} (h : SplInv w wr n k k) (hk : k ≤ 1000) : NewInts w (splitL n k) (.returned (.slice (some ⟨w.heap.size, 0, none⟩) k k)) wr := by
  obtain ⟨⟨cur, h1, h2, h3⟩, hb⟩ := h
  refine ⟨_, some w.heap.size, rfl, ?_, fun g hg => by cases hg; exact Nat.le_refl _, hb⟩
  unfold IntsAt
  rw [splitL_length]
  refine ⟨by rw [intCells_length, splitL_length, Nat.mul_one], by omega, .inr ⟨_, 0, k, cur, rfl, rfl, h1, Nat.le_refl _, by unfold maxLen; omega, by omega, ?_⟩⟩
  refine seg_ext (by rw [intCells_length, splitL_length, Nat.mul_one]) (fun j hj => ?_)
  rw [Nat.zero_add, intCells_get, splitL_get n k j (by omega), Array.getElem?_toList, h3 j (by omega), if_pos (by omega)]
  rfl

theorem split_none (n k : Int) (hk : k < 1) (w : World) : Calls Tryd.prog 28 #[.int .i64 n, .int .i64 k] w fun e w' => e = .returned (.slice none 0 0) ∧ w' = w := by
  go_enter Tryd.func28, Tryd.ntmps28
  go_wp2_with fail
  go_ret
  exact ⟨rfl, rfl⟩

set_option maxRecDepth 8000 in
set_option maxHeartbeats 2000000 in
theorem split_any (n : Int) (k : Nat) (w : World) (h0 : 0 ≤ n) (h1 : n ≤ 2147483647) (hk : 1 ≤ k) (hk1 : k ≤ 1000) :
    Calls Tryd.prog 28 #[.int .i64 n, .int .i64 k] w (NewInts w (splitL n k)) := by
  have hmk : (Instr.makeSlice 22 (.int .i64 k) (.int .i64 k)).run Tryd.prog w = .ok (.slice (some ⟨w.heap.size, 0, none⟩) k k) (w.alloc (.cells (madeCells #[.int .i64 0] k) 3)) := by
    cases hi : Tryd.prog.info? 3 with
    | none => have := infoInt; rw [hi] at this; cases this
    | some i =>
      have := infoInt
      rw [hi] at this
      simp only [Option.map_some, Option.some.injEq, Prod.mk.injEq] at this
      obtain ⟨hz, hs, hb⟩ := this
      have hr := run_make (P := Tryd.prog) w 22 3 i (.int .i64 0) Tryd.underlying22 hi hz .i64 .i64 k k (by omega) (Int.le_refl _) (by rw [hb]; omega) (by omega)
      rw [hs, Nat.mul_one, Int.toNat_natCast] at hr
      exact hr
  have hst : SplInv w (w.alloc (.cells (madeCells #[.int .i64 0] k) 3)) n k 0 := by
    refine ⟨⟨_, heap_alloc_new w _, size_madeCells _ _, fun j hj => ?_⟩, (Below.refl _ _).alloc (Nat.le_refl _) _⟩
    rw [← Array.getElem?_toList, toList_madeCells_one, List.getElem?_replicate, if_pos hj]
    rfl
  obtain ⟨W, hW⟩ : ∃ W, w.alloc (.cells (madeCells #[.int .i64 0] k) 3) = W := ⟨_, rfl⟩
  rw [hW] at hmk hst
  have HST := Lib.hid hst
  have hq : n.tdiv k = n / k := Int.tdiv_eq_ediv_of_nonneg h0
  have hr : n.tmod k = n % k := Int.tmod_eq_emod_of_nonneg h0
  obtain ⟨d0, d1⟩ := div_bd n k h0 h1 hk
  have g1 : IntKind.i64.wrap (n / k) = n / k := IntWalk.i64_in _ (by omega)
  have g2 : IntKind.i64.wrap (n / k + 1) = n / k + 1 := IntWalk.i64_in _ (by omega)
  have hk0 : ((k : Int) == 0) = false := beq_eq_false_iff_ne.2 (by omega)
  have t0 : decide ((k : Int) < 1) = false := decide_eq_false (by omega)
  clear hst hW
  go_enter Tryd.func28, Tryd.ntmps28
  go_wp2_with fail
  go_loopw [13] (fun vi wr => ∃ i : Nat, vi = .int .i64 i ∧ i ≤ k ∧ SplInv w wr n k i) (fun vi _ => (k - intOf vi).toNat)
  case atStart => exact ⟨0, rfl, by omega, HST.out⟩
  case round =>
    obtain ⟨i, rfl, hi, hinv⟩ := hrel
    have HI := Lib.hid hinv
    by_cases hik : i < k
    · have t1 : decide ((i : Int) < (k : Int)) = true := decide_eq_true (by omega)
      obtain ⟨cur, r1, r2, r3⟩ := hinv.row
      have f := block_free r1 i
      have c := block_cell r1 i _ (r3 i hik)
      have c2 : (wr.setCell ⟨w.heap.size, i, none⟩ (.int .i64 (n / k))).cell? ⟨w.heap.size, i, none⟩ = some (.int .i64 (n / k)) :=
        block_cell (setCell_block wr w.heap.size i cur _ _ (.int .i64 (n / k)) r1) i _ (by rw [Array.getElem?_setIfInBounds, if_pos rfl, if_pos (by omega)])
      have f2 : (wr.setCell ⟨w.heap.size, i, none⟩ (.int .i64 (n / k))).frozen? ⟨w.heap.size, i, none⟩ = false :=
        block_free (setCell_block wr w.heap.size i cur _ _ (.int .i64 (n / k)) r1) i
      have i1 : (0 : Int) ≤ (i : Int) := by omega
      have i2 : (i : Int) < (k : Int) := by omega
      by_cases hs : (i : Int) < n % k
      · have HS : Hid (share n k i = n / k + 1) := by unfold share; rw [if_pos hs]; exact rfl
        have HE : Hid (SplInv w ((wr.setCell ⟨w.heap.size, i, none⟩ (.int .i64 (n / k))).setCell ⟨w.heap.size, i, none⟩ (.int .i64 (n / k + 1))) n k (i + 1)) := hinv.step2 hik HS.out _
        clear hinv r1 r2 r3
        go_wp2_with fail
        go_roundw
        case rel => exact ⟨i + 1, by go_num, by omega, HE.out⟩
        case measure => simp [intOf]; omega
      · have HS : Hid (share n k i = n / k) := by unfold share; rw [if_neg hs, Int.add_zero]; exact rfl
        have HE : Hid (SplInv w (wr.setCell ⟨w.heap.size, i, none⟩ (.int .i64 (n / k))) n k (i + 1)) := hinv.step hik HS.out _ rfl
        clear hinv r1 r2 r3
        go_wp2_with fail
        go_roundw
        case rel => exact ⟨i + 1, by go_num, by omega, HE.out⟩
        case measure => simp [intOf]; omega
    · obtain rfl : k = i := by omega
      have HD := Lib.hid (hinv.done hk1)
      clear hinv
      go_wp2_with fail
      go_ret
      exact HD.out

theorem split_all (n : Int) (k : Nat) (w : World) (h0 : 0 ≤ n) (h1 : n ≤ 2147483647) (hk1 : k ≤ 1000) : Calls Tryd.prog 28 #[.int .i64 n, .int .i64 k] w (NewInts w (splitL n k)) := by
  by_cases hk : 1 ≤ k
  · exact split_any n k w h0 h1 hk hk1
  · obtain rfl : k = 0 := by omega
    exact (split_none n ((0 : Nat) : Int) (by decide) w).mono fun e w' ⟨he, hw⟩ => ⟨_, none, he, by rw [hw]; exact RowAt.nil _ _ _, fun g hg => (by cases hg), by rw [hw]; exact Below.refl _ _⟩

/-- What the first i shares are together. -/
def sumTo (n : Int) (k i : Nat) : Int := i * (n / k) + min (i : Int) (n % k)
theorem sumTo_zero (n : Int) (k : Nat) (h : 0 ≤ n) : sumTo n k 0 = 0 := by
  unfold sumTo
  have : 0 ≤ n % (k : Int) := by
    by_cases hk : k = 0
    · subst hk; simp [h]
    · exact Int.emod_nonneg _ (by omega)
  rw [Int.min_eq_left (by simpa using this)]
  simp
theorem sumTo_succ (n : Int) (k i : Nat) : sumTo n k (i + 1) = sumTo n k i + share n k i := by
  unfold sumTo share
  have : ((i + 1 : Nat) : Int) * (n / k) = i * (n / k) + n / k := by rw [Int.natCast_add, Int.add_mul]; simp
  rw [this]
  split <;> omega
theorem sumTo_all (n : Int) (k : Nat) (hk : 1 ≤ k) : sumTo n k k = n := by
  unfold sumTo
  have h1 := Int.emod_lt_of_pos n (show (0 : Int) < k by omega)
  rw [Int.min_eq_right (by omega)]
  exact Int.mul_ediv_add_emod n k
theorem sumTo_bd (n : Int) (k i : Nat) (h0 : 0 ≤ n) (h1 : n ≤ 2147483647) (hk : 1 ≤ k) (hi : i ≤ 1000) : 0 ≤ sumTo n k i ∧ sumTo n k i ≤ 2147483648000 := by
  obtain ⟨d0, d1⟩ := div_bd n k h0 h1 hk
  have h2 := Int.emod_nonneg n (show (k : Int) ≠ 0 by omega)
  have m0 : 0 ≤ (i : Int) * (n / k) := Int.mul_nonneg (by omega) d0
  have m1 : (i : Int) * (n / k) ≤ 1000 * 2147483647 := Int.mul_le_mul (by omega) d1 d0 (by decide)
  unfold sumTo
  omega

theorem share_bd (n : Int) (k i : Nat) (h0 : 0 ≤ n) (h1 : n ≤ 2147483647) (hk : 1 ≤ k) : 0 ≤ share n k i ∧ share n k i ≤ share n k 0 ∧ share n k 0 - 1 ≤ share n k i ∧ share n k i ≤ 2147483648 := by
  obtain ⟨d0, d1⟩ := div_bd n k h0 h1 hk
  have h2 := Int.emod_nonneg n (show (k : Int) ≠ 0 by omega)
  unfold share
  split <;> split <;> omega
theorem share_fall (n : Int) (k i : Nat) : share n k (i + 1) ≤ share n k i := by unfold share; split <;> split <;> omega

end Go.Proofs.YtjollcacgnfabaaDoor
