/- Walks: Around, Compare, isNaN, Or, Search. -/
import Derived.Test.YtcplimefklnknaaBase
namespace Go.Proofs.Ytcplimefklnknaa
open Go.RowKit

def around (n m : Int) : Int := (if n < 0 then -(n+1) else n) % m

set_option maxHeartbeats 400000 in
theorem around_any (n m : Int) (w : World) (h1 : -9223372036854775808 ≤ n) (h2 : n ≤ 9223372036854775807) (hm : 1 ≤ m) (hm2 : m ≤ 9223372036854775807) :
    Calls Try.prog 16 #[.int .i64 n, .int .i64 m] w fun e w' => e = .returned (.int .i64 (around n m)) ∧ w = w' := by
  by_cases h : n < 0
  · go_enter Try.func16, Try.ntmps16
    go_wp2
    go_ret
    exact ⟨ret_int (by rw [around, if_pos h, ← Int.tmod_eq_emod_of_nonneg (by omega), Int.neg_tmod]), rfl⟩
  · go_enter Try.func16, Try.ntmps16
    go_wp2
    go_ret
    exact ⟨ret_int (by rw [around, if_neg (by omega)]), rfl⟩

def cmpI (a b : Int) : Int := if a < b then -1 else if b < a then 1 else 0

theorem isnan_any (a : Int) (w : World) : Calls Try.prog 32 #[.int .i64 a] w fun e w' => e = .returned (.bool false) ∧ w = w' := by
  go_enter Try.func32, Try.ntmps32
  go_wp2
  go_ret
  exact ⟨by simp, rfl⟩

theorem cmp_any (a b : Int) (w : World) : Calls Try.prog 30 #[.int .i64 a, .int .i64 b] w fun e w' => e = .returned (.int .i64 (cmpI a b)) ∧ w = w' := by
  by_cases h1 : a < b
  · go_enter Try.func30, Try.ntmps30
    go_wp2_with (go_at_call 32; refine (isnan_any _ _).mono ?_; rintro e w' ⟨rfl, rfl⟩)
    go_ret
    exact ⟨ret_int (by rw [cmpI, if_pos h1]), rfl⟩
  · by_cases h2 : b < a
    · go_enter Try.func30, Try.ntmps30
      go_wp2_with (go_at_call 32; refine (isnan_any _ _).mono ?_; rintro e w' ⟨rfl, rfl⟩)
      go_ret
      exact ⟨ret_int (by rw [cmpI, if_neg (by omega), if_pos h2]), rfl⟩
    · go_enter Try.func30, Try.ntmps30
      go_wp2_with (go_at_call 32; refine (isnan_any _ _).mono ?_; rintro e w' ⟨rfl, rfl⟩)
      go_ret
      exact ⟨ret_int (by rw [cmpI, if_neg (by omega), if_neg (by omega)]), rfl⟩

set_option maxHeartbeats 400000 in
theorem search_any (f : Nat) (c1 c2 : Value) (n : Nat) (p : Nat → Bool) (w : World) (hn : n ≤ 4611686018427387903)
    (hcf : ∀ args W, (callFunc f args).run Try.prog W = .ok (.enter f args) W)
    (h : ∀ (i : Nat) W, i < n → Below w.heap.size w W → Calls Try.prog f #[.int .i64 i, c1, c2] W (fun e W' => e = .returned (.bool (p i)) ∧ Below W.heap.size W W')) :
    Calls Try.prog 24 #[.int .i64 n, .func (.func f) #[] #[c1, c2]] w fun e w' => ∃ r : Nat, e = .returned (.int .i64 r) ∧ r ≤ n ∧ (r = 0 ∨ p (r-1) = false) ∧ (r = n ∨ p r = true) ∧ Below w.heap.size w w' := by
  have H := Lib.hid h
  clear h
  go_enter Try.func24, Try.ntmps24
  go_wp2
  go_loopw [5, 6] (fun vi vj wr => ∃ i j : Nat, vi = .int .i64 i ∧ vj = .int .i64 j ∧ i ≤ j ∧ j ≤ n ∧ (i = 0 ∨ p (i-1) = false) ∧ (j = n ∨ p j = true) ∧ Below w.heap.size w wr) (fun vi vj _ => (intOf vj - intOf vi).toNat)
  case atStart => exact ⟨0, n, rfl, rfl, Nat.zero_le _, Nat.le_refl _, .inl rfl, .inl rfl, Below.refl _ _⟩
  case round =>
    obtain ⟨i, j, rfl, rfl, hij, hjn, hi, hj, hb⟩ := hrel
    by_cases hlt : i < j
    · obtain ⟨m, hm⟩ : ∃ m, m = (i + j) / 2 := ⟨_, rfl⟩
      have hm1 : i ≤ m := by omega
      have hm2 : m < j := by omega
      have HC := Lib.hid (H.out m wr (by omega) hb)
      have e1 : ((i : Int) + j) / 2 = (m : Int) := by omega
      have HI := Lib.hid hi
      have HJ := Lib.hid hj
      clear hi hj hm
      cases hp : p m
      · rw [hp] at HC
        have HP := Lib.hid hp
        clear hp
        go_wp2_with (with_reducible refine (HC.out).mono ?_; rintro e w' ⟨rfl, hb'⟩)
        go_roundw
        case rel => exact ⟨m + 1, j, by go_num, rfl, by omega, hjn, .inr (by simpa using HP.out), HJ.out, btrans hb (by assumption)⟩
        case measure => simp [intOf]; omega
      · rw [hp] at HC
        have HP := Lib.hid hp
        clear hp
        go_wp2_with (with_reducible refine (HC.out).mono ?_; rintro e w' ⟨rfl, hb'⟩)
        go_roundw
        case rel => exact ⟨i, m, rfl, rfl, by omega, by omega, HI.out, .inr HP.out, btrans hb (by assumption)⟩
        case measure => simp [intOf]; omega
    · go_wp2
      go_ret
      have : i = j := by omega
      subst this
      exact ⟨i, rfl, hjn, hi, hj, hb⟩
end Go.Proofs.Ytcplimefklnknaa
