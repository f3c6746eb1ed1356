/- Split, and the document's. -/
import Derived.Test.YtedoalpijbggiaaDoorP10
import Derived.Test.YtedoalpijbggiaaDoorSame
import Derived.Laws.OwnMore
namespace Go.Proofs.YtedoalpijbggiaaDoor
open Go.RowKit
attribute [local go_sem ↓] Go.wp_at_zero Go.wp_at_succ

def share (n : Int) (k i : Nat) : Int := n / k + if (i : Int) < n % k then 1 else 0
def splitL (n : Int) (k : Nat) : List Int := (List.range k).map (share n k)
theorem splitL_length (n : Int) (k : Nat) : (splitL n k).length = k := by simp [splitL]
theorem splitL_get (n : Int) (k j : Nat) (h : j < k) : (splitL n k)[j]? = some (share n k j) := by simp [splitL, List.getElem?_range h]

structure SplInv (w wr : World) (n : Int) (k i : Nat) : Prop where
  row : ∃ cur, wr.heap[w.heap.size]? = some (.cells cur 3 (0, 0)) ∧ cur.size = k ∧ ∀ j, j < k → cur[j]? = some (.int .i64 (if j < i then share n k j else 0))
  below : Below w.heap.size w wr

/-- A row of numbers that is new. -/
def NewInts (w : World) (l : List Int) (e : Ending) (w' : World) : Prop := ∃ v sb, e = .returned v ∧ IntsAt w' v l sb ∧ (∀ g, sb = some g → w.heap.size ≤ g) ∧ Below w.heap.size w w'

theorem div_bd (n : Int) (k : Nat) (h0 : 0 ≤ n) (h1 : n ≤ 2147483647) (hk : 1 ≤ k) : 0 ≤ n / k ∧ n / k ≤ 2147483647 :=
  ⟨Int.ediv_nonneg h0 (by omega), Int.le_trans (Int.ediv_le_self _ h0) h1⟩

theorem SplInv.step {w wr : World} {n : Int} {k i : Nat} (h : SplInv w wr n k i) (hi : i < k) {x : Int} (hx : share n k i = x) (w' : World) (hw : w' = wr.setCell ⟨w.heap.size, i, none⟩ (.int .i64 x)) : SplInv w w' n k (i + 1) := by
  subst hw hx
  obtain ⟨⟨cur, h1, h2, h3⟩, hb⟩ := h
  refine ⟨⟨_, setCell_block wr w.heap.size i cur _ _ _ h1, by simp [h2], fun j hj => ?_⟩, hb.setCell (p := ⟨w.heap.size, i, none⟩) (Nat.le_refl _) _⟩
  rw [Array.getElem?_setIfInBounds]
  by_cases e : i = j
  · subst e; rw [if_pos rfl, if_pos (by omega), if_pos (by omega)]
  · rw [if_neg e, h3 j hj]
    by_cases e2 : j < i
    · rw [if_pos e2, if_pos (by omega)]
    · rw [if_neg e2, if_neg (by omega)]

theorem SplInv.step2 {w wr : World} {n : Int} {k i : Nat} (h : SplInv w wr n k i) (hi : i < k) {x : Int} (hx : share n k i = x) (y : Value) : SplInv w ((wr.setCell ⟨w.heap.size, i, none⟩ y).setCell ⟨w.heap.size, i, none⟩ (.int .i64 x)) n k (i + 1) := by
  subst hx
  obtain ⟨⟨cur, h1, h2, h3⟩, hb⟩ := h
  refine ⟨⟨_, setCell_block _ w.heap.size i _ _ _ _ (setCell_block wr w.heap.size i cur _ _ y h1), by simp [h2], fun j hj => ?_⟩, (hb.setCell (p := ⟨w.heap.size, i, none⟩) (Nat.le_refl _) _).setCell (p := ⟨w.heap.size, i, none⟩) (Nat.le_refl _) _⟩
  rw [Array.getElem?_setIfInBounds]
  by_cases e : i = j
  · subst e; rw [if_pos rfl, if_pos (by simp; omega), if_pos (by omega)]
  · rw [if_neg e, Array.getElem?_setIfInBounds, if_neg e, h3 j hj]
    by_cases e2 : j < i
    · rw [if_pos e2, if_pos (by omega)]
    · rw [if_neg e2, if_neg (by omega)]

theorem SplInv.done {w wr : World} {n : Int} {k : Nat} (h : SplInv w wr n k k) (hk : k ≤ 1000) : NewInts w (splitL n k) (.returned (.slice (some ⟨w.heap.size, 0, none⟩) k k)) wr := by
  obtain ⟨⟨cur, h1, h2, h3⟩, hb⟩ := h
  refine ⟨_, some w.heap.size, rfl, ?_, fun g hg => by cases hg; exact Nat.le_refl _, hb⟩
  unfold IntsAt
  rw [splitL_length]
  refine ⟨by rw [intCells_length, splitL_length, Nat.mul_one], by omega, .inr ⟨_, 0, k, cur, rfl, rfl, h1, Nat.le_refl _, by unfold maxLen; omega, by omega, ?_⟩⟩
  refine seg_ext (by rw [intCells_length, splitL_length, Nat.mul_one]) (fun j hj => ?_)
  rw [Nat.zero_add, intCells_get, splitL_get n k j (by omega), Array.getElem?_toList, h3 j (by omega), if_pos (by omega)]
  rfl

theorem split_none (n k : Int) (hk : k < 1) (w : World) : Calls Tryd.prog 24 #[.int .i64 n, .int .i64 k] w fun e w' => e = .returned (.slice none 0 0) ∧ w' = w := by
  go_enter Tryd.func24, Tryd.ntmps24
  go_wp2_with fail
  go_ret
  exact ⟨rfl, rfl⟩

set_option maxRecDepth 8000 in
set_option maxHeartbeats 2000000 in
theorem split_any (n : Int) (k : Nat) (w : World) (h0 : 0 ≤ n) (h1 : n ≤ 2147483647) (hk : 1 ≤ k) (hk1 : k ≤ 1000) :
    Calls Tryd.prog 24 #[.int .i64 n, .int .i64 k] w (NewInts w (splitL n k)) := by
  have hmk : (Instr.makeSlice 22 (.int .i64 k) (.int .i64 k)).run Tryd.prog w = .ok (.slice (some ⟨w.heap.size, 0, none⟩) k k) (w.alloc (.cells (madeCells #[.int .i64 0] k) 3)) := by
    cases hi : Tryd.prog.info? 3 with
    | none => have := infoInt; rw [hi] at this; cases this
    | some i =>
      have := infoInt
      rw [hi] at this
      simp only [Option.map_some, Option.some.injEq, Prod.mk.injEq] at this
      obtain ⟨hz, hs, hb⟩ := this
      have hr := run_make (P := Tryd.prog) w 22 3 i (.int .i64 0) Tryd.underlying22 hi hz .i64 .i64 k k (by omega) (Int.le_refl _) (by rw [hb]; omega) (by omega)
      rw [hs, Nat.mul_one, Int.toNat_natCast] at hr
      exact hr
  have hst : SplInv w (w.alloc (.cells (madeCells #[.int .i64 0] k) 3)) n k 0 := by
    refine ⟨⟨_, heap_alloc_new w _, size_madeCells _ _, fun j hj => ?_⟩, (Below.refl _ _).alloc (Nat.le_refl _) _⟩
    rw [← Array.getElem?_toList, toList_madeCells_one, List.getElem?_replicate, if_pos hj]
    rfl
  obtain ⟨W, hW⟩ : ∃ W, w.alloc (.cells (madeCells #[.int .i64 0] k) 3) = W := ⟨_, rfl⟩
  rw [hW] at hmk hst
  have HST := Lib.hid hst
  have hq : n.tdiv k = n / k := Int.tdiv_eq_ediv_of_nonneg h0
  have hr : n.tmod k = n % k := Int.tmod_eq_emod_of_nonneg h0
  obtain ⟨d0, d1⟩ := div_bd n k h0 h1 hk
  have g1 : IntKind.i64.wrap (n / k) = n / k := IntWalk.i64_in _ (by omega)
  have g2 : IntKind.i64.wrap (n / k + 1) = n / k + 1 := IntWalk.i64_in _ (by omega)
  have hk0 : ((k : Int) == 0) = false := beq_eq_false_iff_ne.2 (by omega)
  have t0 : decide ((k : Int) < 1) = false := decide_eq_false (by omega)
  clear hst hW
  go_enter Tryd.func24, Tryd.ntmps24
  go_wp2_with fail
  go_loopw [13] (fun vi wr => ∃ i : Nat, vi = .int .i64 i ∧ i ≤ k ∧ SplInv w wr n k i) (fun vi _ => (k - intOf vi).toNat)
  case atStart => exact ⟨0, rfl, by omega, HST.out⟩
  case round =>
    obtain ⟨i, rfl, hi, hinv⟩ := hrel
    have HI := Lib.hid hinv
    by_cases hik : i < k
    · have t1 : decide ((i : Int) < (k : Int)) = true := decide_eq_true (by omega)
      obtain ⟨cur, r1, r2, r3⟩ := hinv.row
      have f := block_free r1 i
      have c := block_cell r1 i _ (r3 i hik)
      have c2 : (wr.setCell ⟨w.heap.size, i, none⟩ (.int .i64 (n / k))).cell? ⟨w.heap.size, i, none⟩ = some (.int .i64 (n / k)) :=
        block_cell (setCell_block wr w.heap.size i cur _ _ (.int .i64 (n / k)) r1) i _ (by rw [Array.getElem?_setIfInBounds, if_pos rfl, if_pos (by omega)])
      have f2 : (wr.setCell ⟨w.heap.size, i, none⟩ (.int .i64 (n / k))).frozen? ⟨w.heap.size, i, none⟩ = false :=
        block_free (setCell_block wr w.heap.size i cur _ _ (.int .i64 (n / k)) r1) i
      have i1 : (0 : Int) ≤ (i : Int) := by omega
      have i2 : (i : Int) < (k : Int) := by omega
      by_cases hs : (i : Int) < n % k
      · have HS : Hid (share n k i = n / k + 1) := by unfold share; rw [if_pos hs]; exact rfl
        have HE : Hid (SplInv w ((wr.setCell ⟨w.heap.size, i, none⟩ (.int .i64 (n / k))).setCell ⟨w.heap.size, i, none⟩ (.int .i64 (n / k + 1))) n k (i + 1)) := hinv.step2 hik HS.out _
        clear hinv r1 r2 r3
        go_wp2_with fail
        go_roundw
        case rel => exact ⟨i + 1, by go_num, by omega, HE.out⟩
        case measure => simp [intOf]; omega
      · have HS : Hid (share n k i = n / k) := by unfold share; rw [if_neg hs, Int.add_zero]; exact rfl
        have HE : Hid (SplInv w (wr.setCell ⟨w.heap.size, i, none⟩ (.int .i64 (n / k))) n k (i + 1)) := hinv.step hik HS.out _ rfl
        clear hinv r1 r2 r3
        go_wp2_with fail
        go_roundw
        case rel => exact ⟨i + 1, by go_num, by omega, HE.out⟩
        case measure => simp [intOf]; omega
    · obtain rfl : k = i := by omega
      have HD := Lib.hid (hinv.done hk1)
      clear hinv
      go_wp2_with fail
      go_ret
      exact HD.out

/-- The document's. -/
structure RsInv (w wr : World) (n : Int) (k i : Nat) (v : Value) : Prop where
  row : ∃ sb, IntsAt wr v ((splitL n k).take i) sb ∧ ∀ g, sb = some g → w.heap.size ≤ g
  below : Below w.heap.size w wr

theorem RsInv.push {w wr : World} {n : Int} {k i : Nat} {la : Option Addr} {lc : Nat} (h : RsInv w wr n k i (.slice la i lc)) (hi : i < k) (hk : k ≤ 1000) {x : Int} (hx : share n k i = x) :
    ∃ la2 lc2 w2, (Builtin.append_ #[22, 22] 22 #[.slice la i lc, .slice (some ⟨wr.heap.size, 0, none⟩) 1 1]).run Tryd.prog (wr.alloc (.cells #[.int .i64 x] 3)) = .ok (.slice la2 (i + 1) lc2) w2 ∧ RsInv w w2 n k (i + 1) (.slice la2 (i + 1) lc2) := by
  subst hx
  obtain ⟨⟨sb, hrow, hsb⟩, hbel⟩ := h
  have hlen : ((splitL n k).take i).length = i := by rw [List.length_take, splitL_length]; omega
  have hb1 : Below wr.heap.size wr (wr.alloc (.cells #[.int .i64 (share n k i)] 3)) := (Below.refl _ _).alloc (Nat.le_refl _) _
  have hnew : IntsAt (wr.alloc (.cells #[.int .i64 (share n k i)] 3)) (.slice (some ⟨wr.heap.size, 0, none⟩) 1 1) [share n k i] (some wr.heap.size) :=
    ⟨rfl, by simp, .inr ⟨_, 0, 1, _, rfl, rfl, heap_alloc_new wr _, by simp, by simp [maxLen], by simp, rfl⟩⟩
  obtain ⟨v', sb', w2, hrun, hrow2, hg2, hsb2⟩ := ints_append (wr.alloc (.cells #[.int .i64 (share n k i)] 3)) (hrow.keep hb1) hnew (by rw [hlen]; simp; omega)
  have htk : (splitL n k).take i ++ [share n k i] = (splitL n k).take (i + 1) := by rw [List.take_add_one, splitL_get n k i hi]; rfl
  rw [htk] at hrow2
  have hlen2 : ((splitL n k).take (i + 1)).length = i + 1 := by rw [List.length_take, splitL_length]; omega
  obtain ⟨la2, lc2, hform⟩ := RowAt.form hrow2
  rw [hlen2] at hform
  subst hform
  refine ⟨la2, lc2, w2, hrun, ⟨sb', hrow2, fun g hg => ?_⟩, ?_⟩
  · rcases hsb2 with e' | e'
    · exact hsb g (e'.symm.trans hg)
    · rw [hg] at e'; cases e'
      have := hbel.size
      have := hb1.size
      omega
  · have h0 := btrans hbel hb1
    have h1 := h0.size
    have hg : Fr (fun x => sb = some x) (wr.alloc (.cells #[.int .i64 (share n k i)] 3)) w2 := Fr.ofGrown (F := fun x => sb = some x) hg2 (fun x hx => hx)
    refine ((Fr.ofBelow (F := fun x => sb = some x) h0).trans hg (fun _ h => .inl h)).toBelow (fun x hx e' => ?_)
    have := hsb x e'
    omega

set_option maxRecDepth 8000 in
set_option maxHeartbeats 2000000 in
theorem rsplit_any (n : Int) (k : Nat) (w : World) (h0 : 0 ≤ n) (h1 : n ≤ 2147483647) (hk1 : k ≤ 1000) :
    Calls Tryd.prog 26 #[.int .i64 n, .int .i64 k] w (NewInts w (splitL n k)) := by
  have hq : n.tdiv k = n / k := Int.tdiv_eq_ediv_of_nonneg h0
  have hr : n.tmod k = n % k := Int.tmod_eq_emod_of_nonneg h0
  go_enter Tryd.func26, Tryd.ntmps26
  go_wp2_with fail
  go_loopw [5, 6] (fun vo vi wr => ∃ i : Nat, vi = .int .i64 i ∧ i ≤ k ∧ (∃ la lc, vo = .slice la i lc) ∧ RsInv w wr n k i vo) (fun _ vi _ => (k - intOf vi).toNat)
  case atStart => exact ⟨0, rfl, by omega, ⟨_, _, rfl⟩, ⟨⟨none, RowAt.nil _ _ _, fun g hg => by cases hg⟩, Below.refl _ _⟩⟩
  case round =>
    obtain ⟨i, rfl, hi, ⟨la, lc, rfl⟩, hinv⟩ := hrel
    have HI := Lib.hid hinv
    by_cases hik : i < k
    · have t1 : decide ((i : Int) < (k : Int)) = true := decide_eq_true (by omega)
      obtain ⟨d0, d1⟩ := div_bd n k h0 h1 (by omega)
      have g1 : IntKind.i64.wrap (n / k) = n / k := IntWalk.i64_in _ (by omega)
      have g2 : IntKind.i64.wrap (n / k + 1) = n / k + 1 := IntWalk.i64_in _ (by omega)
      have hk0 : ((k : Int) == 0) = false := beq_eq_false_iff_ne.2 (by omega)
      by_cases hs : (i : Int) < n % k
      · obtain ⟨la2, lc2, w2, happ, h2⟩ := hinv.push hik hk1 (x := n / k + 1) (by unfold share; rw [if_pos hs])
        have H2 := Lib.hid h2
        clear hinv h2
        go_wp2_with (at_builtin; refine wpList_run (by rfl) (exec_append _ _ _ _ (by rfl) _ _ (by rfl) (by rfl) happ) ?_)
        go_roundw
        case rel => exact ⟨i + 1, by go_num, by omega, ⟨_, _, rfl⟩, H2.out⟩
        case measure => simp [intOf]; omega
      · obtain ⟨la2, lc2, w2, happ, h2⟩ := hinv.push hik hk1 (x := n / k) (by unfold share; rw [if_neg hs, Int.add_zero])
        have H2 := Lib.hid h2
        clear hinv h2
        go_wp2_with (at_builtin; refine wpList_run (by rfl) (exec_append _ _ _ _ (by rfl) _ _ (by rfl) (by rfl) happ) ?_)
        go_roundw
        case rel => exact ⟨i + 1, by go_num, by omega, ⟨_, _, rfl⟩, H2.out⟩
        case measure => simp [intOf]; omega
    · obtain rfl : k = i := by omega
      have t1 : decide ((k : Int) < (k : Int)) = false := decide_eq_false (by omega)
      obtain ⟨⟨sb, r1, r2⟩, hb⟩ := hinv
      rw [List.take_of_length_le (by rw [splitL_length]; omega)] at r1
      have HD : Hid (NewInts w (splitL n k) (.returned (.slice la k lc)) wr) := ⟨_, sb, rfl, r1, r2, hb⟩
      clear r1 r2 hb
      go_wp2_with fail
      go_ret
      exact HD.out

end Go.Proofs.YtedoalpijbggiaaDoor
