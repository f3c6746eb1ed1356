/- Walks: Or, place$1, Due$1. -/
import Derived.Test.YtcplimefklnknaaA2
namespace Go.Proofs.Ytcplimefklnknaa
open Go.RowKit
attribute [local go_sem ↓] Go.wp_at_zero Go.wp_at_succ

def or2 (a b : Int) : Int := if a ≠ 0 then a else b

set_option maxHeartbeats 400000 in
theorem or_any (x y : Int) (b : Nat) (w : World) (h0 : w.cell? ⟨b, 0, none⟩ = some (.int .i64 x)) (h1 : w.cell? ⟨b, 1, none⟩ = some (.int .i64 y)) :
    Calls Try.prog 29 #[.slice (some ⟨b, 0, none⟩) 2 2] w fun e w' => e = .returned (.int .i64 (or2 x y)) ∧ w = w' := by
  by_cases hx : x = 0
  · have hxb : (x == 0) = true := by simp [hx]
    have hxb' : (x != 0) = false := by simp [hx]
    have HX := Lib.hid hx
    clear hx
    go_enter Try.func29, Try.ntmps29
    go_wp2
    go_loop [8] (fun vi => ∃ i : Nat, vi = .int .i64 i ∧ i ≤ 2 ∧ (i = 2 → y = 0)) (fun vi => (2 - intOf vi).toNat)
    case atStart => exact ⟨0, rfl, by omega, by omega⟩
    case round =>
      obtain ⟨i, rfl, hi, hy⟩ := hrel
      rcases (show i = 0 ∨ i = 1 ∨ i = 2 by omega) with rfl | rfl | rfl
      · clear hy
        go_wp2
        go_round
        case rel => exact ⟨1, rfl, by omega, by omega⟩
        case measure => simp [intOf]
      · clear hy
        by_cases hy : y = 0
        · have hyb' : (y != 0) = false := by simp [hy]
          have HY := Lib.hid hy
          clear hy
          go_wp2
          go_round
          case rel => exact ⟨2, rfl, by omega, fun _ => HY.out⟩
          case measure => simp [intOf]
        · have hyb' : (y != 0) = true := by simp [hy]
          have HY := Lib.hid hy
          clear hy
          go_wp2
          go_ret
          exact ⟨ret_int (by rw [or2, if_neg (by simp [HX.out])]), rfl⟩
      · have HY := Lib.hid (hy rfl)
        clear hy
        go_wp2
        go_ret
        exact ⟨ret_int (by rw [or2, if_neg (by simp [HX.out]), HY.out]), rfl⟩
  · have hxb' : (x != 0) = true := by simp [hx]
    have HX := Lib.hid hx
    clear hx
    go_enter Try.func29, Try.ntmps29
    go_wp2
    go_loop [8] (fun vi => vi = .int .i64 0) (fun _ => 0)
    case atStart => rfl
    case round =>
      obtain rfl := hrel
      go_wp2
      go_ret
      exact ⟨ret_int (by rw [or2, if_pos HX.out]), rfl⟩

set_option maxHeartbeats 400000 in
theorem due1_any (x y z now : Int) (b : Nat) (w : World) (h0 : w.cell? ⟨b, 0, none⟩ = some (.int .i64 now)) :
    Calls Try.prog 19 #[.agg #[.int .i64 x, .int .i64 y, .int .i64 z], .pointer (some ⟨b, 0, none⟩)] w fun e w' => e = .returned (.bool (decide (now < x))) ∧ Below w.heap.size w w' := by
  have h0' := akeep h0
  go_enter Try.func19, Try.ntmps19
  go_wp2
  go_ret
  exact ⟨rfl, (Below.refl _ _).alloc (Nat.le_refl _) _⟩

/-- is the entry (x, y, _) no earlier than (u, v)? -/
def geE (x y u v : Int) : Bool := decide (or2 (cmpI x u) (cmpI y v) ≥ 0)

set_option maxHeartbeats 400000 in
theorem place1_any (x y z u v : Int) (b : Nat) (w : World) (h0 : w.cell? ⟨b, 0, none⟩ = some (.int .i64 u)) (h1 : w.cell? ⟨b, 1, none⟩ = some (.int .i64 v)) :
    Calls Try.prog 28 #[.agg #[.int .i64 x, .int .i64 y, .int .i64 z], .pointer (some ⟨b, 0, none⟩)] w fun e w' => e = .returned (.bool (geE x y u v)) ∧ Below w.heap.size w w' := by
  have h0' := akeep h0
  have h1' := akeep h1
  go_enter Try.func28, Try.ntmps28
  go_wp2_with fail
  go_region_held3 (fun w' => w'.cell? ⟨w.heap.size, 0, none⟩ = some (.int .i64 x) ∧ w'.cell? ⟨w.heap.size, 1, none⟩ = some (.int .i64 y) ∧ w'.cell? ⟨b, 0, none⟩ = some (.int .i64 u) ∧ w'.cell? ⟨b, 1, none⟩ = some (.int .i64 v)) (first | go_keep | trace "keep") (first | (go_at_call 30; refine (cmp_any _ _ _).mono ?_; rintro e w' ⟨rfl, rfl⟩) | (go_at_call 29; refine (or_any (cmpI x u) (cmpI y v) _ _ ?_ ?_).mono ?_; go_simp; go_simp; rintro e w' ⟨rfl, rfl⟩) | fail)
  go_wp2
  go_ret
  exact ⟨rfl, (((Below.refl _ _).alloc (Nat.le_refl _) _).alloc (by simp) _).drew⟩

end Go.Proofs.Ytcplimefklnknaa
