/- PurseDeals: the walk. -/
import Derived.Test.YtedoalpijbggiaaDoorP12
namespace Go.Proofs.YtedoalpijbggiaaDoor
open Go.RowKit
attribute [local go_sem ↓] Go.wp_at_zero Go.wp_at_succ

theorem split_all (n : Int) (k : Nat) (w : World) (h0 : 0 ≤ n) (h1 : n ≤ 2147483647) (hk1 : k ≤ 1000) : Calls Tryd.prog 24 #[.int .i64 n, .int .i64 k] w (NewInts w (splitL n k)) := by
  by_cases hk : 1 ≤ k
  · exact split_any n k w h0 h1 hk hk1
  · obtain rfl : k = 0 := by omega
    exact (split_none n ((0 : Nat) : Int) (by decide) w).mono fun e w' ⟨he, hw⟩ => ⟨_, none, he, by rw [hw]; exact RowAt.nil _ _ _, fun g hg => (by cases hg), by rw [hw]; exact Below.refl _ _⟩

/-- What the first i shares are together. -/
def sumTo (n : Int) (k i : Nat) : Int := i * (n / k) + min (i : Int) (n % k)
theorem sumTo_zero (n : Int) (k : Nat) (h : 0 ≤ n) : sumTo n k 0 = 0 := by
  unfold sumTo
  have : 0 ≤ n % (k : Int) := by
    by_cases hk : k = 0
    · subst hk; simp [h]
    · exact Int.emod_nonneg _ (by omega)
  rw [Int.min_eq_left (by simpa using this)]
  simp
theorem sumTo_succ (n : Int) (k i : Nat) : sumTo n k (i + 1) = sumTo n k i + share n k i := by
  unfold sumTo share
  have : ((i + 1 : Nat) : Int) * (n / k) = i * (n / k) + n / k := by rw [Int.natCast_add, Int.add_mul]; simp
  rw [this]
  split <;> omega
theorem sumTo_all (n : Int) (k : Nat) (hk : 1 ≤ k) : sumTo n k k = n := by
  unfold sumTo
  have h1 := Int.emod_lt_of_pos n (show (0 : Int) < k by omega)
  rw [Int.min_eq_right (by omega)]
  exact Int.mul_ediv_add_emod n k
theorem sumTo_bd (n : Int) (k i : Nat) (h0 : 0 ≤ n) (h1 : n ≤ 2147483647) (hk : 1 ≤ k) (hi : i ≤ 1000) : 0 ≤ sumTo n k i ∧ sumTo n k i ≤ 2147483648000 := by
  obtain ⟨d0, d1⟩ := div_bd n k h0 h1 hk
  have h2 := Int.emod_nonneg n (show (k : Int) ≠ 0 by omega)
  have m0 : 0 ≤ (i : Int) * (n / k) := Int.mul_nonneg (by omega) d0
  have m1 : (i : Int) * (n / k) ≤ 1000 * 2147483647 := Int.mul_le_mul (by omega) d1 d0 (by decide)
  unfold sumTo
  omega

theorem share_bd (n : Int) (k i : Nat) (h0 : 0 ≤ n) (h1 : n ≤ 2147483647) (hk : 1 ≤ k) : 0 ≤ share n k i ∧ share n k i ≤ share n k 0 ∧ share n k 0 - 1 ≤ share n k i ∧ share n k i ≤ 2147483648 := by
  obtain ⟨d0, d1⟩ := div_bd n k h0 h1 hk
  have h2 := Int.emod_nonneg n (show (k : Int) ≠ 0 by omega)
  unfold share
  split <;> split <;> omega
theorem share_fall (n : Int) (k i : Nat) : share n k (i + 1) ≤ share n k i := by unfold share; split <;> split <;> omega

structure DealInv (w wr : World) : Prop where
  below : Below w.heap.size w wr

set_option maxRecDepth 8000 in
set_option maxHeartbeats 8000000 in
theorem deals_walk (n kids : Int) (w : World) (hn : -9223372036854775808 ≤ n ∧ n ≤ 9223372036854775807) (hkids : -9223372036854775808 ≤ kids ∧ kids ≤ 9223372036854775807) :
    Calls Tryd.prog 8 #[.int .i64 n, .int .i64 kids] w fun e w' => e = .returned (.bool true) ∧ Below w.heap.size w w' := by
  have HA1 := Lib.hid (around_any n 2147483648 w hn.1 hn.2 (by omega) (by omega))
  have HA2 := Lib.hid (around_any kids 13 w hkids.1 hkids.2 (by omega) (by omega))
  obtain ⟨x0, x1⟩ := around_bd n (m := 2147483648) (by omega)
  obtain ⟨y0, y1⟩ := around_bd kids (m := 13) (by omega)
  obtain ⟨x, hx⟩ : ∃ x, x = around n 2147483648 := ⟨_, rfl⟩
  obtain ⟨k, hk⟩ : ∃ k : Nat, (k : Int) = around kids 13 := ⟨(around kids 13).toNat, by omega⟩
  rw [← hx] at HA1 x0 x1
  rw [← hk] at HA2 y0 y1
  clear hx hk
  have HSP := Lib.hid (fun w => split_all x k w x0 (by omega) (by omega))
  have HRS := Lib.hid (fun w => rsplit_any x k w x0 (by omega) (by omega))
  go_enter Tryd.func8, Tryd.ntmps8
  go_wp2_with fail
  refine HA1.out.mono ?_
  rintro e w' ⟨rfl, rfl⟩
  go_wp2_with fail
  refine HA2.out.mono ?_
  rintro e w' ⟨rfl, rfl⟩
  go_wp2_with fail
  refine (HSP.out _).mono ?_
  rintro e w1 ⟨v, gv, rfl, hv, hg, hb1⟩
  obtain ⟨la, lc, rfl⟩ := RowAt.form hv
  rw [splitL_length] at *
  go_wp2_with fail
  refine (HRS.out _).mono ?_
  rintro e w2 ⟨v2, gv2, rfl, hv2, hg2, hb2⟩
  have HSM := Lib.hid (same_any (hv.keep hb2) hv2)
  rw [decide_eq_true rfl] at HSM
  have hvr := hv.keep hb2
  have HB2 := Lib.hid (btrans hb1 hb2)
  have HV := Lib.hid hvr
  clear hv hv2 hg hg2 hb1 hb2 hvr
  go_wp2_with fail
  refine HSM.out.mono ?_
  rintro e w3 ⟨rfl, hb3⟩
  have HB3 := Lib.hid (btrans HB2.out hb3)
  have HV3 := Lib.hid (HV.out.keep hb3)
  clear hb3 HV
  go_wp2_with fail
  go_loopw [7, 8] (fun vs vi wr => ∃ i : Nat, vi = .int .i64 i ∧ i ≤ k ∧ vs = .int .i64 (sumTo x k i) ∧ Below w3.heap.size w3 wr) (fun _ vi _ => (k - intOf vi).toNat)
  case atStart => exact ⟨0, rfl, by omega, by rw [sumTo_zero x k x0], Below.refl _ _⟩
  case round =>
    obtain ⟨i, rfl, hi, rfl, hbr⟩ := hrel
    have HBR := Lib.hid hbr
    by_cases hik : i < k
    · have t1 : decide ((i : Int) < (k : Int)) = true := decide_eq_true (by omega)
      rcases (HV3.out.keep hbr).2.2 with ⟨_, h0, _⟩ | ⟨g, off, cap, cur, hvv, hsg, _⟩
      · rw [splitL_length] at h0; omega
      injection hvv with e1 e2 e3
      subst e1
      clear e2 e3 hsg
      have hc : ∀ j, j < k → wr.cell? ⟨g, off + j, none⟩ = some (.int .i64 (share x k j)) := fun j hj => by
        have h := (HV3.out.keep hbr)
        unfold IntsAt at h
        rw [splitL_length] at h
        rw [RowAt.cell h j (by omega), intCells_get, splitL_get x k j hj]; rfl
      obtain ⟨b0, b1, b2, b3⟩ := share_bd x k i x0 (by omega) (by omega)
      obtain ⟨z0, z1, z2, z3⟩ := share_bd x k 0 x0 (by omega) (by omega)
      obtain ⟨s0, s1⟩ := sumTo_bd x k i x0 (by omega) (by omega) (by omega)
      have HSS : Hid (sumTo x k (i + 1) = sumTo x k i + share x k i) := sumTo_succ x k i
      have ci := hc i hik
      have c0 := hc 0 (by omega)
      rw [Nat.add_zero] at c0
      have i1 : (0 : Int) ≤ (i : Int) := by omega
      have i2 : (i : Int) < (k : Int) := by omega
      have i3 : (0 : Int) < (k : Int) := by omega
      obtain ⟨q, hq⟩ : ∃ q, q = sumTo x k i := ⟨_, rfl⟩
      obtain ⟨u, hu⟩ : ∃ u, u = share x k i := ⟨_, rfl⟩
      obtain ⟨z, hz⟩ : ∃ z, z = share x k 0 := ⟨_, rfl⟩
      have g1 : IntKind.i64.wrap (q + u) = q + u := IntWalk.i64_in _ (by omega)
      have g2 : IntKind.i64.wrap (z - 1) = z - 1 := IntWalk.i64_in _ (by omega)
      have d1 : decide (u < 0) = false := decide_eq_false (by omega)
      have d2 : decide (z < u) = false := decide_eq_false (by omega)
      have d3 : decide (u < z - 1) = false := decide_eq_false (by omega)
      have dr1 := bkeep (Below.refl _ _).drew ci
      have dr0 := bkeep (Below.refl _ _).drew c0
      rw [← hq] at HSS
      rw [← hu] at HSS ci b0 b1 b2 b3
      rw [← hz] at c0 b1 b2 z0 z3
      rw [← hq]
      by_cases hi0 : i = 0
      · subst hi0
        have hzu : z = u := by rw [hz, hu]
        subst hzu
        have hz0 : ((0 : Nat) : Int) = 0 := rfl
        rw [hz0] at i2 t1 ⊢
        clear hu hz hq hc dr1 dr0 hbr ci z1 z2 i1 hz0
        go_wp2_with fail
        go_quiet (fail)
        go_wp2_with fail
        go_roundw
        case rel => exact ⟨1, by go_num, by omega, by rw [HSS.out], below_drewN HBR.out⟩
        case measure => simp [intOf]; omega
      · obtain ⟨j, rfl⟩ : ∃ j, i = j + 1 := ⟨i - 1, by omega⟩
        have cj := hc j (by omega)
        have hf := share_fall x k j
        have g3 : IntKind.i64.wrap (((j + 1 : Nat) : Int) - 1) = (j : Int) := by rw [IntWalk.i64_in _ (by omega)]; omega
        rw [← hu] at hf
        obtain ⟨t, ht⟩ : ∃ t, t = share x k j := ⟨_, rfl⟩
        rw [← ht] at hf cj
        have d4 : decide ((0 : Int) < ((j + 1 : Nat) : Int)) = true := decide_eq_true (by omega)
        have d5 : decide (t < u) = false := decide_eq_false (by omega)
        have j1 : (0 : Int) ≤ (j : Int) := by omega
        have i4 : 0 < k := by omega
        have i5 : ¬ k = 0 := by omega
        have i6 : decide (0 < k) = true := decide_eq_true i4
        have j2 : (j : Int) < (k : Int) := by omega
        obtain ⟨m, hm⟩ : ∃ m, m = j + 1 := ⟨_, rfl⟩
        rw [← hm] at ci i1 i2 g3 d4 t1 HSS ⊢
        have i7 : 0 < m := by omega
        have i8 : decide (0 < m) = true := decide_eq_true i7
        have HM := Lib.hid hm
        clear hu hz hq hc dr1 dr0 hbr z1 z2 ht hi0 hm
        go_wp2_with fail
        go_quiet (fail)
        go_wp2_with fail
        go_roundw
        case rel => exact ⟨m + 1, by go_num, by have := HM.out; omega, by rw [HSS.out], below_drewN HBR.out⟩
        case measure => simp [intOf]; have := HM.out; omega
    · obtain rfl : k = i := by omega
      have t1 : decide ((k : Int) < (k : Int)) = false := decide_eq_false (by omega)
      have HBW := Lib.hid (btrans HB3.out hbr)
      have HS2 : Hid (∀ w, Calls Tryd.prog 24 #[.int .i64 x, .int .i64 2] w (NewInts w (splitL x 2))) := (fun w => split_any x 2 w x0 (by omega) (by omega) (by omega))
      have HHF := Lib.hid (fun w => half_any x w x0 (by omega))
      obtain ⟨q, hq⟩ : ∃ q, q = sumTo x k k := ⟨_, rfl⟩
      have HQ : Hid (1 ≤ k → q = x) := fun h => by rw [hq]; exact sumTo_all x k h
      rw [← hq]
      clear hbr hq
      go_wp2_with fail
      refine (HHF.out _).mono ?_
      rintro e w5 ⟨rfl, rfl⟩
      go_wp2_with fail
      refine (HS2.out _).mono ?_
      rintro e w6 ⟨v6, gv6, rfl, hv6, hg6, hb6⟩
      obtain ⟨la6, lc6, rfl⟩ := RowAt.form hv6
      rcases hv6.2.2 with ⟨_, h0, _⟩ | ⟨g6, off6, cap6, cur6, hvv6, hsg6, _⟩
      · rw [splitL_length] at h0; cases h0
      injection hvv6 with e1 e2 e3
      subst e1
      have hr6 := hv6
      unfold IntsAt at hr6
      rw [splitL_length] at hr6
      have p0 := RowAt.cell hr6 0 (by omega)
      have p1 := RowAt.cell hr6 1 (by omega)
      rw [intCells_get, splitL_get x 2 0 (by omega)] at p0
      rw [intCells_get, splitL_get x 2 1 (by omega)] at p1
      rw [Nat.add_zero] at p0
      have m0 : share x 2 0 = x - x / 2 := by unfold share; split <;> omega
      have m1 : share x 2 1 = x / 2 := by unfold share; split <;> omega
      rw [m0] at p0
      rw [m1] at p1
      rw [splitL_length]
      have HB6 := Lib.hid (btrans HBW.out hb6)
      have u1 : IntKind.i64.wrap (x / 2 + (x - x / 2)) = x := by rw [IntWalk.i64_in _ (by omega)]; omega
      have u2 : IntKind.i64.wrap (x - x / 2 - x / 2) = x - x / 2 - x / 2 := IntWalk.i64_in _ (by omega)
      have u3 : decide (x / 2 ≤ x - x / 2) = true := decide_eq_true (by omega)
      have u4 : decide (x - x / 2 - x / 2 ≤ 1) = true := decide_eq_true (by omega)
      have HLV := Lib.hid (lives_any w6)
      clear hv6 hr6 hg6 hb6 hsg6 e2 e3 m0 m1
      by_cases hk0 : k = 0
      · subst hk0
        go_wp2_with fail
        refine HLV.out.mono ?_
        rintro e w7 ⟨rfl, hb7⟩
        have HB7 := Lib.hid (btrans HB6.out hb7)
        clear hb7
        go_wp2_with fail
        go_ret
        exact ⟨rfl, HB7.out⟩
      · have hk0b : ((k : Int) == 0) = false := beq_eq_false_iff_ne.2 (by omega)
        have hqx := HQ.out (by omega)
        subst hqx
        go_wp2_with fail
        refine HLV.out.mono ?_
        rintro e w7 ⟨rfl, hb7⟩
        have HB7 := Lib.hid (btrans HB6.out hb7)
        clear hb7
        go_wp2_with fail
        go_ret
        exact ⟨rfl, HB7.out⟩

end Go.Proofs.YtedoalpijbggiaaDoor
