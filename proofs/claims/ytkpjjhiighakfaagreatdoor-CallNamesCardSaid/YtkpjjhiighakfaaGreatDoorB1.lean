/- The tokens' bucket; small functions. -/
import Derived.Test.YtkpjjhiighakfaaGreatDoorRow
import Derived.BigQuiet
namespace Go.Proofs.YtkpjjhiighakfaaGreatDoor
open Go.RowKit
attribute [local go_sem ↓] Go.wp_at_zero Go.wp_at_succ

theorem below_drewN {n nq : Nat} {w w' : World} (h : Below n w w') : Below n w (w'.drewN nq) := ⟨h.os, h.tape, h.output, h.size, h.block⟩

/-- A bucket of tokens. -/
structure Bk where
  per : Int
  of : Int
  most : Int
  parts : Int

def BkAt (w : World) (bb : Nat) (B : Bk) : Prop := w.heap[bb]? = some (.cells #[.int .i64 B.per, .int .i64 B.of, .int .i64 B.most, .int .i64 B.parts] 68 (0, 0))
structure Bk.Ok (B : Bk) : Prop where
  of : 1 ≤ B.of ∧ B.of ≤ 1000
  per : 0 ≤ B.per ∧ B.per ≤ 1000
  parts : 0 ≤ B.parts ∧ B.parts ≤ B.most
  most : B.most ≤ 1000000

theorem half_any (n : Int) (w : World) (h0 : 0 ≤ n) (h1 : n ≤ 1000000) :
    Calls Tryz.prog 31 #[.int .i64 n] w fun e w' => e = .returned (.tuple #[.int .i64 (n / 2), .int .i64 (n - n / 2)]) ∧ w' = w := by
  have hq : n.tdiv 2 = n / 2 := Int.tdiv_eq_ediv_of_nonneg h0
  go_enter Tryz.func31, Tryz.ntmps31
  go_wp2
  go_ret2
  exact ⟨by simp, rfl⟩

/-- Take. -/
def Bk.take (B : Bk) : Bk := if B.of ≤ B.parts then { B with parts := B.parts - B.of } else B
def Bk.may (B : Bk) : Bool := decide (B.of ≤ B.parts)

theorem take_any {w : World} {bb : Nat} {B : Bk} (h : BkAt w bb B) (hok : B.Ok) :
    Calls Tryz.prog 67 #[.pointer (some ⟨bb, 0, none⟩)] w fun e w' => e = .returned (.bool B.may) ∧ BkAt w' bb B.take ∧ Fr (fun k => k = bb) w w' := by
  obtain ⟨h1, h2, h3, h4⟩ := hok
  have c1 := block_cell h 1 _ rfl
  have c3 := block_cell h 3 _ rfl
  have f3 := block_free h 3
  by_cases hm : B.of ≤ B.parts
  · have t1 : (0 : Int) ≤ B.parts + -B.of := by omega
    have H := Lib.hid h
    have HM := Lib.hid hm
    have hp := setCell_block w bb 3 _ _ _ (.int .i64 (B.parts + -B.of)) h
    have HP := Lib.hid hp
    clear h hm hp
    go_enter Tryz.func67, Tryz.ntmps67
    go_wp2
    go_ret
    refine ⟨?_, ?_, Fr.setCell _ _ _ _ rfl⟩
    · exact ret_bool (by rw [Bk.may, decide_eq_true HM.out])
    · unfold BkAt Bk.take; rw [if_pos HM.out]; exact HP.out
  · have t1 : ¬ (0 : Int) ≤ B.parts + -B.of := by omega
    have H := Lib.hid h
    have HM := Lib.hid hm
    clear h hm
    go_enter Tryz.func67, Tryz.ntmps67
    go_wp2
    go_ret
    refine ⟨?_, ?_, Fr.refl _ _⟩
    · exact ret_bool (by rw [Bk.may, decide_eq_false (by have := HM.out; omega)])
    · unfold BkAt Bk.take; rw [if_neg (by have := HM.out; omega)]; exact H.out

/-- Fresh. -/
def Bk.fresh (B : Bk) : Bk := { B with parts := min (B.parts + B.per) B.most }

theorem bnew_any (per of burst : Int) (w : World) (h0 : 0 ≤ of ∧ of ≤ 1000) (h1 : 0 ≤ burst ∧ burst ≤ 1000) :
    Calls Tryz.prog 14 #[.agg #[.int .i64 per, .int .i64 of, .int .i64 burst]] w fun e w' => ∃ bb, e = .returned (.pointer (some ⟨bb, 0, none⟩)) ∧ w.heap.size ≤ bb ∧ BkAt w' bb ⟨per, of, burst * of, burst * of⟩ ∧ Below w.heap.size w w' := by
  have hm : 0 ≤ burst * of ∧ burst * of ≤ 1000000 := by
    obtain ⟨a, ha⟩ : ∃ a : Nat, of = a := ⟨of.toNat, by omega⟩
    obtain ⟨b, hb⟩ : ∃ b : Nat, burst = b := ⟨burst.toNat, by omega⟩
    subst ha hb
    have : b * a ≤ 1000 * 1000 := Nat.mul_le_mul (by omega) (by omega)
    exact ⟨by rw [← Int.natCast_mul]; omega, by rw [← Int.natCast_mul]; omega⟩
  obtain ⟨hm0, hm1⟩ := hm
  go_enter Tryz.func14, Tryz.ntmps14
  go_wp2
  go_ret
  refine ⟨w.heap.size + 1, rfl, by omega, ?_, ((Below.refl _ _).alloc (Nat.le_refl _) _).alloc (by simp) _⟩
  have := heap_alloc_new (w.alloc (.cells #[.int .i64 per, .int .i64 of, .int .i64 burst] 27)) (.cells #[.int .i64 per, .int .i64 of, .int .i64 (burst * of), .int .i64 (burst * of)] 68)
  unfold BkAt
  simpa using this

end Go.Proofs.YtkpjjhiighakfaaGreatDoor
