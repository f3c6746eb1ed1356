/- CtxPurse: fix.Sum of the shares. -/
import Derived.Test.YtjollcacgnfabaaDoorC15
namespace Go.Proofs.YtjollcacgnfabaaDoor
open Go.RowKit
attribute [local go_sem ↓] Go.wp_at_zero Go.wp_at_succ

set_option maxRecDepth 8000 in
set_option maxHeartbeats 1000000 in
theorem sum_any {w : World} {g off cap : Nat} {n : Int} {k : Nat} {sb : Option Nat} (h : IntsAt w (.slice (some ⟨g, off, none⟩) k cap) (splitL n k) sb) (h0 : 0 ≤ n) (h1 : n ≤ 2147483647) (hk : 1 ≤ k) (hk1 : k ≤ 1000) :
    Calls Tryd.prog 29 #[.slice (some ⟨g, off, none⟩) k cap] w fun e w' => e = .returned (.int .i64 n) ∧ w' = w := by
  have HC : Hid (∀ i, i < k → w.cell? ⟨g, off + i, none⟩ = some (.int .i64 (share n k i))) := fun i hi => by
    have e : (splitL n k).length = k := splitL_length n k
    have h' : IntsAt w (.slice (some ⟨g, off, none⟩) (splitL n k).length cap) (splitL n k) sb := by rw [e]; exact h
    have c := h'.cell i (by omega)
    rw [c]
    have hg := splitL_get n k i hi
    rw [List.getElem?_eq_getElem (by omega)] at hg
    rw [Option.some.inj hg]
  have HT : Hid (sumTo n k k = n) := sumTo_all n k hk
  have HZ : Hid (sumTo n k 0 = 0) := sumTo_zero n k h0
  have HS := Lib.hid (sumTo_succ n k)
  have HB := Lib.hid (fun i hi => sumTo_bd n k i h0 h1 hk hi)
  have HSB := Lib.hid (fun i => share_bd n k i h0 h1 hk)
  clear h
  go_enter Tryd.func29, Tryd.ntmps29
  go_wp2_with fail
  go_loopw [3, 8] (fun vs vi wr => ∃ i : Nat, vi = .int .i64 i ∧ i ≤ k ∧ vs = .int .i64 (sumTo n k i) ∧ wr = w) (fun _ vi _ => (k - intOf vi).toNat)
  case atStart => exact ⟨0, rfl, Nat.zero_le _, by rw [HZ.out], rfl⟩
  case round =>
    obtain ⟨i, rfl, hi, rfl, rfl⟩ := hrel
    by_cases hik : i < k
    · have t1 : ((i : Int) < (k : Int)) := by omega
      have i0 : (0 : Int) ≤ (i : Int) := by omega
      have c := HC.out i hik
      obtain ⟨s0, s1⟩ := HB.out i (by omega)
      obtain ⟨x0, _, _, x1⟩ := HSB.out i
      obtain ⟨sm, hsm⟩ : ∃ sm, sm = sumTo n k i := ⟨_, rfl⟩
      obtain ⟨x, hx⟩ : ∃ x, x = share n k i := ⟨_, rfl⟩
      have HE : Hid (sumTo n k (i + 1) = sm + x) := by rw [hsm, hx]; exact HS.out i
      rw [← hsm] at s0 s1 ⊢
      rw [← hx] at c x0 x1
      have t2 : ¬ (4611686018427387903 - sm < x) := by omega
      clear hsm hx
      go_wp2_with fail
      go_roundw
      case rel => exact ⟨i + 1, by go_num, by omega, by rw [HE.out], trivial⟩
      case measure => simp [intOf]; omega
    · obtain rfl : i = k := by omega
      have t1 : ¬ ((i : Int) < (i : Int)) := by omega
      rw [HT.out]
      go_wp2_with fail
      go_ret
      exact ⟨rfl, rfl⟩

end Go.Proofs.YtjollcacgnfabaaDoor
