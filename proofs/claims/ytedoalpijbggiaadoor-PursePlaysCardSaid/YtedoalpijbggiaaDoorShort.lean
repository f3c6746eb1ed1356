/- Short: picked out of XC21. -/
import Derived.Test.YtedoalpijbggiaaDoorIn
import Derived.Test.YtedoalpijbggiaaDoorPlain
namespace Go.Proofs.YtedoalpijbggiaaDoor
open Go.RowKit
attribute [local go_sem ↓] Go.wp_at_zero Go.wp_at_succ

def shortOf (s : ByteArray) (m : Nat) : ByteArray := if m < s.size then s.extract 0 m else s

theorem shortOf_size (s : ByteArray) (m : Nat) : (shortOf s m).size ≤ m := by
  unfold shortOf
  split
  · rw [ByteArray.size_extract]; omega
  · omega

theorem short_any (s : ByteArray) (m : Nat) (hm : m ≤ 1000) (w : World) :
    Calls Tryd.prog 12 #[.string s, .int .i64 m] w fun e w' => e = .returned (.string (shortOf s m)) ∧ w' = w := by
  by_cases h : m < s.size
  · have HE : Hid (shortOf s m = s.extract 0 m) := if_pos h
    have t1 : ((m : Int) < (s.size : Int)) := by omega
    have i0 : (0 : Int) ≤ (m : Int) := by omega
    have i1 : (m : Int) ≤ (s.size : Int) := by omega
    go_enter Tryd.func12, Tryd.ntmps12
    go_wp2_with fail
    go_ret
    rw [HE.out]
    exact ⟨rfl, rfl⟩
  · have HE : Hid (shortOf s m = s) := if_neg h
    have t1 : ¬ ((m : Int) < (s.size : Int)) := by omega
    go_enter Tryd.func12, Tryd.ntmps12
    go_wp2_with fail
    go_ret
    rw [HE.out]
    exact ⟨rfl, rfl⟩

end Go.Proofs.YtedoalpijbggiaaDoor
