/- TrimLeft at the ten digits. -/
import Derived.Test.YtkpjjhiighakfaaGreatDoorN3
import Derived.Shelf.Strings.IndexAnyAll
import Derived.Deep.WholeRow
namespace Go.Proofs.YtkpjjhiighakfaaGreatDoor
open Go.RowKit
attribute [local go_sem ↓] Go.wp_at_zero Go.wp_at_succ

theorem info256 : (Tryz.prog.info? 81).map (fun i => (i.zero, i.size)) = some (some (.agg (Array.replicate 256 (.bool false))), 256) := by kernel_rfl

set_option maxRecDepth 100000 in
set_option maxHeartbeats 4000000 in
theorem trimLeft_any (s : ByteArray) (h0 : 0 < s.size) (w : World) :
    Calls Tryz.prog 24 #[.string s, .string ⟨#[48, 49, 50, 51, 52, 53, 54, 55, 56, 57]⟩] w fun e w' => e = .returned (.string (dropDig s)) ∧ Below w.heap.size w w' := by
  have HM : Hid (Calls Tryz.prog 42 #[.string ten] w fun e w' => e = .returned (.tuple #[.agg (Lib.setCells ten.data.toList), .bool true]) ∧ w' = w.alloc (.cells (Lib.setCells ten.data.toList) 81)) :=
    Any.strings_makeASCIISet Tryz.lays227 (zero_of_info info256).1 (zero_of_info info256).2 ten w (by decide) (fun j b hj => by
      have h : ∀ b ∈ ten.data.toList, b.toNat < 128 := by decide
      exact h b (List.mem_of_getElem? hj))
  have hne : s.toList.isEmpty = false := by
    rw [Lib.toList_data]
    cases h : s.data.toList with
    | nil => have := Lib.size_eq s; rw [h, List.length_nil] at this; omega
    | cons _ _ => rfl
  obtain ⟨C, hC⟩ : ∃ C, C = Lib.setCells ten.data.toList := ⟨_, rfl⟩
  have hsz : C.size = 256 := by rw [hC]; exact Lib.setCells_size _
  have hzc : Tryz.zeroCells81 = Array.replicate 256 (.bool false) := by kernel_rfl
  have hsc : (storeCells ⟨w.heap.size + 1, 0, none⟩ C.toList 0).run Tryz.prog ((w.alloc (.cells C 81)).alloc (.cells Tryz.zeroCells81 81)) = .ok () ((w.alloc (.cells C 81)).alloc (.cells C 81)) := by
    have := run_storeCells_new (P := Tryz.prog) (w.alloc (.cells C 81)) 81 (Array.replicate 256 (.bool false)) C (by rw [hsz]; exact (zero_of_info info256).2) (by rw [hsz]; simp) (by rw [hC]; exact Lib.setCells_one _)
    rw [hzc]
    simpa using this
  have HAT : Hid (SetAt ((w.alloc (.cells C 81)).alloc (.cells C 81)) (w.heap.size + 1)) := fun x => by
    rw [hC, World.cell?_alloc_at _ _ _ _ (by simp), Lib.setCells_at]; rfl
  rw [← hC] at HM
  clear hC hzc
  go_enter Tryz.func24, Tryz.ntmps24
  go_wp2_with fail
  refine HM.out.mono ?_
  rintro e w1 ⟨rfl, rfl⟩
  go_wp2_with fail
  try simp only [hsc, Result.andThen]
  try rw [Oper.upon_skip]
  have HTR := Lib.hid (trimASCII_any s _ _ HAT.out)
  clear hsc
  go_wp2_with fail
  refine HTR.out.mono ?_
  rintro e w' ⟨rfl, rfl⟩
  go_wp2_with fail
  go_ret
  exact ⟨rfl, ((Below.refl _ _).alloc (Nat.le_refl _) _).alloc (by simp) _⟩

end Go.Proofs.YtkpjjhiighakfaaGreatDoor
