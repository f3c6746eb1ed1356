/- The tokens' bucket; small functions. -/
import Derived.Test.YtipmajcefcfnlaaRow
import Derived.BigQuiet
namespace Go.Proofs.Ytipmajcefcfnlaa
open Go.RowKit
attribute [local go_sem ↓] Go.wp_at_zero Go.wp_at_succ

theorem below_drewN {n nq : Nat} {w w' : World} (h : Below n w w') : Below n w (w'.drewN nq) := ⟨h.os, h.tape, h.output, h.size, h.block⟩

/-- A bucket of tokens. -/
structure Bk where
  per : Int
  of : Int
  most : Int
  parts : Int

def BkAt (w : World) (bb : Nat) (B : Bk) : Prop := w.heap[bb]? = some (.cells #[.int .i64 B.per, .int .i64 B.of, .int .i64 B.most, .int .i64 B.parts] 80 (0, 0))
structure Bk.Ok (B : Bk) : Prop where
  of : 1 ≤ B.of ∧ B.of ≤ 1000
  per : 0 ≤ B.per ∧ B.per ≤ 1000
  parts : 0 ≤ B.parts ∧ B.parts ≤ B.most
  most : B.most ≤ 1000000

theorem half_any (n : Int) (w : World) (h0 : 0 ≤ n) (h1 : n ≤ 1000000) :
    Calls Try.prog 46 #[.int .i64 n] w fun e w' => e = .returned (.tuple #[.int .i64 (n / 2), .int .i64 (n - n / 2)]) ∧ w' = w := by
  have hq : n.tdiv 2 = n / 2 := Int.tdiv_eq_ediv_of_nonneg h0
  go_enter Try.func46, Try.ntmps46
  go_wp2
  go_ret2
  exact ⟨by simp, rfl⟩

theorem down_any (a b : Int) (w : World) (h0 : 0 ≤ a) (h1 : a ≤ 1000000) (hb : 1 ≤ b) (hb1 : b ≤ 1000000) :
    Calls Try.prog 40 #[.int .i64 a, .int .i64 b] w fun e w' => e = .returned (.int .i64 (a / b)) ∧ w' = w := by
  have hq : a.tdiv b = a / b := Int.tdiv_eq_ediv_of_nonneg h0
  have hr : a.tmod b = a % b := Int.tmod_eq_emod_of_nonneg h0
  have hr0 := Int.emod_nonneg a (show b ≠ 0 by omega)
  have hbz : b ≠ 0 := by omega
  have hb2 : ¬ b < 1 := by omega
  have hr1 : ¬ a.tmod b < 0 := by omega
  go_enter Try.func40, Try.ntmps40
  go_wp2
  go_ret
  have hle : a / b ≤ a := Int.ediv_le_self b h0
  have hge : 0 ≤ a / b := Int.ediv_nonneg h0 (by omega)
  exact ⟨ret_int (IntWalk.wrap64_in _ (by omega)), rfl⟩

/-- Take. -/
def Bk.take (B : Bk) : Bk := if B.of ≤ B.parts then { B with parts := B.parts - B.of } else B
def Bk.may (B : Bk) : Bool := decide (B.of ≤ B.parts)

theorem take_any {w : World} {bb : Nat} {B : Bk} (h : BkAt w bb B) (hok : B.Ok) :
    Calls Try.prog 61 #[.pointer (some ⟨bb, 0, none⟩)] w fun e w' => e = .returned (.bool B.may) ∧ BkAt w' bb B.take ∧ Fr (fun k => k = bb) w w' := by
  obtain ⟨h1, h2, h3, h4⟩ := hok
  have c1 := block_cell h 1 _ rfl
  have c3 := block_cell h 3 _ rfl
  have f3 := block_free h 3
  by_cases hm : B.of ≤ B.parts
  · have t1 : (0 : Int) ≤ B.parts + -B.of := by omega
    have H := Lib.hid h
    have HM := Lib.hid hm
    have hp := setCell_block w bb 3 _ _ _ (.int .i64 (B.parts + -B.of)) h
    have HP := Lib.hid hp
    clear h hm hp
    go_enter Try.func61, Try.ntmps61
    go_wp2
    go_ret
    refine ⟨?_, ?_, Fr.setCell _ _ _ _ rfl⟩
    · exact ret_bool (by rw [Bk.may, decide_eq_true HM.out])
    · unfold BkAt Bk.take; rw [if_pos HM.out]; exact HP.out
  · have t1 : ¬ (0 : Int) ≤ B.parts + -B.of := by omega
    have H := Lib.hid h
    have HM := Lib.hid hm
    clear h hm
    go_enter Try.func61, Try.ntmps61
    go_wp2
    go_ret
    refine ⟨?_, ?_, Fr.refl _ _⟩
    · exact ret_bool (by rw [Bk.may, decide_eq_false (by have := HM.out; omega)])
    · unfold BkAt Bk.take; rw [if_neg (by have := HM.out; omega)]; exact H.out

/-- Fresh. -/
def Bk.fresh (B : Bk) : Bk := { B with parts := min (B.parts + B.per) B.most }

theorem fresh_any {w : World} {bb : Nat} {B : Bk} (h : BkAt w bb B) (hok : B.Ok) :
    Calls Try.prog 26 #[.pointer (some ⟨bb, 0, none⟩)] w fun e w' => e = .returned (.tuple #[]) ∧ BkAt w' bb B.fresh ∧ Fr (fun k => k = bb) w w' := by
  obtain ⟨h1, h2, h3, h4⟩ := hok
  have hbw : bb < w.heap.size := (Array.getElem?_eq_some_iff.1 h).1
  have c0 := block_cell h 0 _ rfl
  have c2 := block_cell h 2 _ rfl
  have c3 := block_cell h 3 _ rfl
  have f3 := block_free h 3
  have HP : Hid (∀ x o, BkAt ((w.setCell ⟨bb, 3, none⟩ (.int .i64 x)).alloc o) bb { B with parts := x } ∧ Fr (fun k => k = bb) w ((w.setCell ⟨bb, 3, none⟩ (.int .i64 x)).alloc o)) := fun x o =>
    ⟨(heap_alloc_old _ o (by simp [World.setCell]; exact hbw)).trans (setCell_block w bb 3 _ _ _ (.int .i64 x) h), (Fr.setCell (fun k => k = bb) w ⟨bb, 3, none⟩ _ rfl).trans (Fr.ofBelow (F := fun k => k = bb) ((Below.refl _ _).alloc (Nat.le_refl _) o)) (fun _ h => .inl h)⟩
  clear h
  by_cases hm : B.parts + B.per ≤ B.most
  · have HM : Hid (B.fresh = { B with parts := B.parts + B.per }) := by unfold Bk.fresh Hid; rw [Int.min_eq_left hm]
    go_enter Try.func26, Try.ntmps26
    go_wp2
    all_goals (go_end0; rw [HM.out]; exact ⟨rfl, HP.out _ _⟩)
  · have HM : Hid (B.fresh = { B with parts := B.most }) := by unfold Bk.fresh Hid; rw [Int.min_eq_right (by omega)]
    go_enter Try.func26, Try.ntmps26
    go_wp2
    all_goals (go_end0; rw [HM.out]; exact ⟨rfl, HP.out _ _⟩)

theorem bnew_any (per of burst : Int) (w : World) (h0 : 0 ≤ of ∧ of ≤ 1000) (h1 : 0 ≤ burst ∧ burst ≤ 1000) :
    Calls Try.prog 23 #[.agg #[.int .i64 per, .int .i64 of, .int .i64 burst]] w fun e w' => ∃ bb, e = .returned (.pointer (some ⟨bb, 0, none⟩)) ∧ w.heap.size ≤ bb ∧ BkAt w' bb ⟨per, of, burst * of, burst * of⟩ ∧ Below w.heap.size w w' := by
  have hm : 0 ≤ burst * of ∧ burst * of ≤ 1000000 := by
    obtain ⟨a, ha⟩ : ∃ a : Nat, of = a := ⟨of.toNat, by omega⟩
    obtain ⟨b, hb⟩ : ∃ b : Nat, burst = b := ⟨burst.toNat, by omega⟩
    subst ha hb
    have : b * a ≤ 1000 * 1000 := Nat.mul_le_mul (by omega) (by omega)
    exact ⟨by rw [← Int.natCast_mul]; omega, by rw [← Int.natCast_mul]; omega⟩
  obtain ⟨hm0, hm1⟩ := hm
  go_enter Try.func23, Try.ntmps23
  go_wp2
  go_ret
  refine ⟨w.heap.size + 1, rfl, by omega, ?_, ((Below.refl _ _).alloc (Nat.le_refl _) _).alloc (by simp) _⟩
  have := heap_alloc_new (w.alloc (.cells #[.int .i64 per, .int .i64 of, .int .i64 burst] 27)) (.cells #[.int .i64 per, .int .i64 of, .int .i64 (burst * of), .int .i64 (burst * of)] 80)
  unfold BkAt
  simpa using this

end Go.Proofs.Ytipmajcefcfnlaa
