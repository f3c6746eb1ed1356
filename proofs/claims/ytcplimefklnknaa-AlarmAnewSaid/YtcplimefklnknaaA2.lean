/- Walks: first$1. -/
import Derived.Test.YtcplimefklnknaaA1
import Derived.Deep.RegionHeld3
import Derived.Deep.DrawnRows
import Derived.BigQuiet
namespace Go.Proofs.Ytcplimefklnknaa
open Go.RowKit
attribute [local go_sem ↓] Go.wp_at_zero Go.wp_at_succ

set_option maxHeartbeats 400000 in
theorem first1_any (g : Nat) (c : Value) (pb sb off n cap i b1 b2 : Nat) (x y z : Int) (q : Bool) (w : World)
    (hcf : ∀ args W, (callFunc g args).run Try.prog W = .ok (.enter g args) W)
    (hi : i < n) 
    (c1 : w.cell? ⟨b1, 0, none⟩ = some (.func (.func g) #[] #[c]))
    (c2 : w.cell? ⟨b2, 0, none⟩ = some (.pointer (some ⟨pb, 0, none⟩)))
    (c3 : w.cell? ⟨pb, 0, none⟩ = some (.slice (some ⟨sb, off, none⟩) n cap))
    (e0 : w.cell? ⟨sb, off + i * 3, none⟩ = some (.int .i64 x))
    (e1 : w.cell? ⟨sb, off + i * 3 + 1, none⟩ = some (.int .i64 y))
    (e2 : w.cell? ⟨sb, off + i * 3 + 2, none⟩ = some (.int .i64 z))
    (hg : ∀ W, Below w.heap.size w W → Calls Try.prog g #[.agg #[.int .i64 x, .int .i64 y, .int .i64 z], c] W (fun e W' => e = .returned (.bool q) ∧ Below W.heap.size W W')) :
    Calls Try.prog 25 #[.int .i64 i, .pointer (some ⟨b1, 0, none⟩), .pointer (some ⟨b2, 0, none⟩)] w fun e w' => e = .returned (.bool q) ∧ Below w.heap.size w w' := by
  have H := Lib.hid hg
  clear hg
  have i1 : (0 : Int) ≤ (i : Int) := by omega
  have i2 : (i : Int) < (n : Int) := by omega
  go_enter Try.func25, Try.ntmps25
  go_wp2_with fail
  go_region_held3 (fun w' => w'.cell? ⟨b1, 0, none⟩ = some (.func (.func g) #[] #[c]) ∧ w'.cell? ⟨b2, 0, none⟩ = some (.pointer (some ⟨pb, 0, none⟩)) ∧ w'.cell? ⟨pb, 0, none⟩ = some (.slice (some ⟨sb, off, none⟩) n cap) ∧ w'.cell? ⟨sb, off + i * 3, none⟩ = some (.int .i64 x) ∧ w'.cell? ⟨sb, off + i * 3 + 1, none⟩ = some (.int .i64 y) ∧ w'.cell? ⟨sb, off + i * 3 + 2, none⟩ = some (.int .i64 z)) (first | go_keep | exact ⟨bkeep hb' c1, bkeep hb' c2, bkeep hb' c3, bkeep hb' e0, bkeep hb' e1, bkeep hb' e2⟩) (first | ((with_reducible refine (H.out _ ?_).mono ?_; exact (Below.refl _ _).drew); rintro e w' ⟨rfl, hb'⟩) | fail)
  go_wp2
  go_ret
  exact ⟨rfl, bdrew (by assumption)⟩
end Go.Proofs.Ytcplimefklnknaa
