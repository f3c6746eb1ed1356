/- Walks: lives. -/
import Derived.Test.YtcplimefklnknaaA14
namespace Go.Proofs.Ytcplimefklnknaa
open Go.RowKit
attribute [local go_sem ↓] Go.wp_at_zero Go.wp_at_succ

theorem le1 : setE [] 0 5 1 = [(5, 1, 1)] := by decide +kernel
theorem le2 : setE [(5, 1, 1)] 1 3 2 = [(3, 2, 2), (5, 1, 1)] := by decide +kernel
theorem le3 : setE [(3, 2, 2), (5, 1, 1)] 2 5 3 = [(3, 2, 2), (5, 1, 1), (5, 3, 3)] := by decide +kernel
theorem le4 : setE [(3, 2, 2), (5, 1, 1), (5, 3, 3)] 3 3 1 = [(3, 2, 2), (3, 4, 1), (5, 3, 3)] := by decide +kernel
theorem le5 : (dueL [(3, 2, 2), (3, 4, 1), (5, 3, 3)] 4).map (·.2.2) = [2, 1] := by decide +kernel
theorem le6 : leftL [(3, 2, 2), (3, 4, 1), (5, 3, 3)] 4 = [(5, 3, 3)] := by decide +kernel

set_option maxHeartbeats 2000000 in
theorem lives_any (w : World) : Calls Try.prog 12 #[] w fun e w' => e = .returned (.bool true) ∧ Below w.heap.size w w' := by
  go_enter Try.func12, Try.ntmps12
  go_wp2_with fail
  refine (new_any _).mono ?_
  rintro e w0 ⟨pb, mb, rfl, ha, hb, hft⟩
  have HI := Lib.hid (PlayInv.mk (w := w) (st := (0, [])) ⟨none, ha, hft⟩ hb)
  clear ha hft hb
  go_wp2_with fail
  obtain ⟨⟨sb, ha, hft⟩, hb⟩ := HI.out
  refine (set_any ha (by simp) 5 1).mono ?_
  rintro e w1 ⟨sb1, rfl, ha1, hf1, hs1⟩
  have HI1 := Lib.hid (PlayInv.step (st' := (1, [(5, 1, 1)])) hb hft (by rw [← le1]; exact ha1) hf1 (hs1.imp (fun h => h) (fun ⟨k, h1, h2⟩ => .inr ⟨k, h1, Nat.le_trans hb.size h2⟩)))
  clear ha hft hb ha1 hf1 hs1 HI
  go_wp2_with fail
  obtain ⟨⟨sb, ha, hft⟩, hb⟩ := HI1.out
  refine (set_any ha (by simp) 3 2).mono ?_
  rintro e w2 ⟨sb1, rfl, ha1, hf1, hs1⟩
  have HI2 := Lib.hid (PlayInv.step (st' := (2, [(3, 2, 2), (5, 1, 1)])) hb hft (by rw [← le2]; exact ha1) hf1 (hs1.imp (fun h => h) (fun ⟨k, h1, h2⟩ => .inr ⟨k, h1, Nat.le_trans hb.size h2⟩)))
  clear ha hft hb ha1 hf1 hs1 HI1
  go_wp2_with fail
  obtain ⟨⟨sb, ha, hft⟩, hb⟩ := HI2.out
  refine (set_any ha (by simp) 5 3).mono ?_
  rintro e w3 ⟨sb1, rfl, ha1, hf1, hs1⟩
  have HI3 := Lib.hid (PlayInv.step (st' := (3, [(3, 2, 2), (5, 1, 1), (5, 3, 3)])) hb hft (by rw [← le3]; exact ha1) hf1 (hs1.imp (fun h => h) (fun ⟨k, h1, h2⟩ => .inr ⟨k, h1, Nat.le_trans hb.size h2⟩)))
  clear ha hft hb ha1 hf1 hs1 HI2
  go_wp2_with fail
  obtain ⟨⟨sb, ha, hft⟩, hb⟩ := HI3.out
  refine (set_any ha (by simp) 3 1).mono ?_
  rintro e w4 ⟨sb1, rfl, ha1, hf1, hs1⟩
  have HI4 := Lib.hid (PlayInv.step (st' := (4, [(3, 2, 2), (3, 4, 1), (5, 3, 3)])) hb hft (by rw [← le4]; exact ha1) hf1 (hs1.imp (fun h => h) (fun ⟨k, h1, h2⟩ => .inr ⟨k, h1, Nat.le_trans hb.size h2⟩)))
  clear ha hft hb ha1 hf1 hs1 HI3
  go_wp2_with fail
  obtain ⟨⟨sb, ha, hft⟩, hb⟩ := HI4.out
  refine (due_any ha (by simp) 4).mono ?_
  rintro e w5 ⟨v, sbI, sb1, rfl, hI, hIf, ha1, hf1, hs1⟩
  have HII := Lib.hid (show IntsAt w5 v [2, 1] sbI by rw [← le5]; exact (show RowAt _ _ _ _ _ _ _ from by simpa using hI))
  have HI5 := Lib.hid (PlayInv.step (st' := (4, [(5, 3, 3)])) hb hft (by rw [← le6]; exact ha1) hf1 (hs1.elim (fun h => .inr (.inl h)) (fun h => .inl h)))
  clear ha hft hb ha1 hf1 hs1 hI hIf HI4
  go_wp2_with fail
  obtain ⟨⟨sb, ha, hft⟩, hb⟩ := HI5.out
  refine (next_any ha).mono ?_
  rintro e w' ⟨rfl, rfl⟩
  have hn1 : (Option.map (fun x : Ent => x.1) (List.head? [(5, 3, 3)])).getD 0 = 5 := rfl
  rw [hn1]
  have HAA := Lib.hid ha
  clear ha hft hb hn1
  go_wp2_with fail
  obtain ⟨W, hW⟩ : ∃ W, W = w5.alloc (.cells #[.int .i64 2, .int .i64 1] 3) := ⟨_, rfl⟩
  have hbW : Below w5.heap.size w5 W := by rw [hW]; exact (Below.refl _ _).alloc (Nat.le_refl _) _
  have hnW : W.heap[w5.heap.size]? = some (.cells #[.int .i64 2, .int .i64 1] 3 (0, 0)) := by rw [hW]; exact heap_alloc_new _ _
  have hIW : IntsAt W (.slice (some ⟨w5.heap.size, 0, none⟩) 2 2) [2, 1] (some w5.heap.size) := ⟨rfl, by simp, .inr ⟨w5.heap.size, 0, 2, _, rfl, rfl, hnW, by simp, by unfold maxLen; simp, by simp, rfl⟩⟩
  rw [← hW]
  refine (same_any (HII.out.keep hbW) hIW).mono ?_
  rintro e w6 ⟨rfl, hb6⟩
  have ha6 := HAA.out.keep (w' := w6) (fun b hb => (btrans hbW hb6).block b (HAA.out.lt b hb))
  have HA6 := Lib.hid ha6
  have HBL := Lib.hid (HI5.out.below.trans ((btrans hbW hb6).mono HI5.out.below.size))
  rw [decide_eq_true (rfl : ([2, 1] : List Int) = [2, 1])]
  clear hbW hnW hIW hW hb6 ha6 HII HAA
  go_wp2_with (go_at_call 11; refine (len_any HA6.out).mono ?_; rintro e w' ⟨rfl, rfl⟩)
  go_ret
  exact ⟨rfl, HBL.out⟩

end Go.Proofs.Ytcplimefklnknaa
