/- The document's Split. -/
import Derived.Test.YtjollcacgnfabaaDoorDeal
namespace Go.Proofs.YtjollcacgnfabaaDoor
open Go.RowKit
attribute [local go_sem ↓] Go.wp_at_zero Go.wp_at_succ

/-- The document's. -/
structure RsInv (w wr : World) (n : Int) (k i : Nat) (v : Value) : Prop where
  row : ∃ sb, IntsAt wr v ((splitL n k).take i) sb ∧ ∀ g, sb = some g → w.heap.size ≤ g
  below : Below w.heap.size w wr

theorem RsInv.push {w wr : World} {n : Int} {k i : Nat} {la : Option Addr} {lc : Nat} (h : RsInv w wr n k i (.slice la i lc)) (hi : i < k) (hk : k ≤ 1000) {x : Int} (hx : share n k i = x) :
    ∃ la2 lc2 w2, (Builtin.append_ #[22, 22] 22 #[.slice la i lc, .slice (some ⟨wr.heap.size, 0, none⟩) 1 1]).run Tryd.prog (wr.alloc (.cells #[.int .i64 x] 3)) = .ok (.slice la2 (i + 1) lc2) w2 ∧ RsInv w w2 n k (i + 1) (.slice la2 (i + 1) lc2) := by
  subst hx
  obtain ⟨⟨sb, hrow, hsb⟩, hbel⟩ := h
  have hlen : ((splitL n k).take i).length = i := by rw [List.length_take, splitL_length]; omega
  have hb1 : Below wr.heap.size wr (wr.alloc (.cells #[.int .i64 (share n k i)] 3)) := (Below.refl _ _).alloc (Nat.le_refl _) _
  have hnew : IntsAt (wr.alloc (.cells #[.int .i64 (share n k i)] 3)) (.slice (some ⟨wr.heap.size, 0, none⟩) 1 1) [share n k i] (some wr.heap.size) :=
    ⟨rfl, by simp, .inr ⟨_, 0, 1, _, rfl, rfl, heap_alloc_new wr _, by simp, by simp [maxLen], by simp, rfl⟩⟩
  obtain ⟨v', sb', w2, hrun, hrow2, hg2, hsb2⟩ := ints_append (wr.alloc (.cells #[.int .i64 (share n k i)] 3)) (hrow.keep hb1) hnew (by rw [hlen]; simp; omega)
  have htk : (splitL n k).take i ++ [share n k i] = (splitL n k).take (i + 1) := by rw [List.take_add_one, splitL_get n k i hi]; rfl
  rw [htk] at hrow2
  have hlen2 : ((splitL n k).take (i + 1)).length = i + 1 := by rw [List.length_take, splitL_length]; omega
  obtain ⟨la2, lc2, hform⟩ := RowAt.form hrow2
  rw [hlen2] at hform
  subst hform
  refine ⟨la2, lc2, w2, hrun, ⟨sb', hrow2, fun g hg => ?_⟩, ?_⟩
  · rcases hsb2 with e' | e'
    · exact hsb g (e'.symm.trans hg)
    · rw [hg] at e'; cases e'
      have := hbel.size
      have := hb1.size
      omega
  · have h0 := btrans hbel hb1
    have h1 := h0.size
    have hg : Fr (fun x => sb = some x) (wr.alloc (.cells #[.int .i64 (share n k i)] 3)) w2 := Fr.ofGrown (F := fun x => sb = some x) hg2 (fun x hx => hx)
    refine ((Fr.ofBelow (F := fun x => sb = some x) h0).trans hg (fun _ h => .inl h)).toBelow (fun x hx e' => ?_)
    have := hsb x e'
    omega

set_option maxRecDepth 8000 in
set_option maxHeartbeats 2000000 in
theorem rsplit_any (n : Int) (k : Nat) (w : World) (h0 : 0 ≤ n) (h1 : n ≤ 2147483647) (hk1 : k ≤ 1000) :
    Calls Tryd.prog 53 #[.int .i64 n, .int .i64 k] w (NewInts w (splitL n k)) := by
  have hq : n.tdiv k = n / k := Int.tdiv_eq_ediv_of_nonneg h0
  have hr : n.tmod k = n % k := Int.tmod_eq_emod_of_nonneg h0
  go_enter Tryd.func53, Tryd.ntmps53
  go_wp2_with fail
  go_loopw [5, 6] (fun vo vi wr => ∃ i : Nat, vi = .int .i64 i ∧ i ≤ k ∧ (∃ la lc, vo = .slice la i lc) ∧ RsInv w wr n k i vo) (fun _ vi _ => (k - intOf vi).toNat)
  case atStart => exact ⟨0, rfl, by omega, ⟨_, _, rfl⟩, ⟨⟨none, RowAt.nil _ _ _, fun g hg => by cases hg⟩, Below.refl _ _⟩⟩
  case round =>
    obtain ⟨i, rfl, hi, ⟨la, lc, rfl⟩, hinv⟩ := hrel
    have HI := Lib.hid hinv
    by_cases hik : i < k
    · have t1 : decide ((i : Int) < (k : Int)) = true := decide_eq_true (by omega)
      obtain ⟨d0, d1⟩ := div_bd n k h0 h1 (by omega)
      have g1 : IntKind.i64.wrap (n / k) = n / k := IntWalk.i64_in _ (by omega)
      have g2 : IntKind.i64.wrap (n / k + 1) = n / k + 1 := IntWalk.i64_in _ (by omega)
      have hk0 : ((k : Int) == 0) = false := beq_eq_false_iff_ne.2 (by omega)
      by_cases hs : (i : Int) < n % k
      · obtain ⟨la2, lc2, w2, happ, h2⟩ := hinv.push hik hk1 (x := n / k + 1) (by unfold share; rw [if_pos hs])
        have H2 := Lib.hid h2
        clear hinv h2
        go_wp2_with (at_builtin; refine wpList_run (by rfl) (exec_append _ _ _ _ (by rfl) _ _ (by rfl) (by rfl) happ) ?_)
        go_roundw
        case rel => exact ⟨i + 1, by go_num, by omega, ⟨_, _, rfl⟩, H2.out⟩
        case measure => simp [intOf]; omega
      · obtain ⟨la2, lc2, w2, happ, h2⟩ := hinv.push hik hk1 (x := n / k) (by unfold share; rw [if_neg hs, Int.add_zero])
        have H2 := Lib.hid h2
        clear hinv h2
        go_wp2_with (at_builtin; refine wpList_run (by rfl) (exec_append _ _ _ _ (by rfl) _ _ (by rfl) (by rfl) happ) ?_)
        go_roundw
        case rel => exact ⟨i + 1, by go_num, by omega, ⟨_, _, rfl⟩, H2.out⟩
        case measure => simp [intOf]; omega
    · obtain rfl : k = i := by omega
      have t1 : decide ((k : Int) < (k : Int)) = false := decide_eq_false (by omega)
      obtain ⟨⟨sb, r1, r2⟩, hb⟩ := hinv
      rw [List.take_of_length_le (by rw [splitL_length]; omega)] at r1
      have HD : Hid (NewInts w (splitL n k) (.returned (.slice la k lc)) wr) := ⟨_, sb, rfl, r1, r2, hb⟩
      clear r1 r2 hb
      go_wp2_with fail
      go_ret
      exact HD.out

end Go.Proofs.YtjollcacgnfabaaDoor
