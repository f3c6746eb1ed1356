/- The document's decimal. -/
import Derived.Test.YtjollcacgnfabaaDoorC23
namespace Go.Proofs.YtjollcacgnfabaaDoor
open Go.RowKit
attribute [local go_sem ↓] Go.wp_at_zero Go.wp_at_succ

structure DecInv (s : ByteArray) (k : Nat) (n : Int) : Prop where
  le : k ≤ s.size
  k11 : k ≤ 11
  lo : 0 ≤ n
  hi : n < ((10 ^ k : Nat) : Int)
  scan : scanC (s.data.toList.drop k) n k = decF s
theorem DecInv.start (s : ByteArray) : DecInv s 0 0 := ⟨Nat.zero_le _, by decide, Int.le_refl _, by decide, rfl⟩
theorem DecInv.bound {s : ByteArray} {k : Nat} {n : Int} (h : DecInv s k n) (hk : k < 11) : n < 10000000000 := by
  have h3 : 10 ^ k ≤ 10 ^ 10 := Nat.pow_le_pow_right (by decide) (by omega)
  have h4 : 10 ^ 10 = 10000000000 := by decide
  have := h.hi
  omega
theorem DecInv.step {s : ByteArray} {k : Nat} {n : Int} (h : DecInv s k n) (hk : k < s.size) (h11 : k < 11) {x : UInt8} (hx : s[k]'hk = x) (hd : isDig x = true) : DecInv s (k + 1) (10 * n + ((x.toNat : Int) - 48)) := by
  have hb := (isDig_iff x).1 hd
  obtain ⟨a1, a2, a3, a4, a5⟩ := h
  refine ⟨by omega, by omega, by omega, ?_, ?_⟩
  · rw [Nat.pow_succ]; omega
  · rw [drop_byte s k hk, hx, scanC, if_pos ⟨h11, hd⟩] at a5
    exact a5
theorem DecInv.end_ {s : ByteArray} {k : Nat} {n : Int} (h : DecInv s k n) (he : ∀ hk : k < s.size, k < 11 → isDig (s[k]'hk) = false) : decF s = (n, k) := by
  rw [← h.scan]
  by_cases e : k < s.size
  · rw [drop_byte s k e, scanC]
    by_cases e2 : k < 11
    · rw [if_neg (fun h => by rw [he e e2] at h; exact Bool.false_ne_true h.2)]
    · rw [if_neg (fun h => e2 h.1)]
  · rw [List.drop_eq_nil_of_le (by rw [← Lib.size_eq s]; omega), scanC]

theorem dec_bad {s : ByteArray} {k : Nat} {n : Int} (h : decF s = (n, k)) (hb : k = 0 ∨ (1 < k ∧ s.data.toList[0]? = some 48) ∨ 2147483647 < n) : decV s = 0 ∧ decK s = 0 := by
  have h2 : decBad s := by unfold decBad; rw [h]; exact hb
  unfold decV decK
  rw [if_pos h2, if_pos h2]
  exact ⟨rfl, rfl⟩
theorem dec_good {s : ByteArray} {k : Nat} {n : Int} (h : decF s = (n, k)) (hb : ¬ (k = 0 ∨ (1 < k ∧ s.data.toList[0]? = some 48) ∨ 2147483647 < n)) : decV s = n ∧ decK s = k := by
  have h2 : ¬ decBad s := by unfold decBad; rw [h]; exact hb
  unfold decV decK
  rw [if_neg h2, if_neg h2, h]
  exact ⟨rfl, rfl⟩

set_option maxRecDepth 8000 in
set_option maxHeartbeats 2000000 in
theorem decimal_any (s : ByteArray) (hs : s.size ≤ 1000000) (w : World) :
    Calls Tryd.prog 56 #[.string s] w fun e w' => e = .returned (.tuple #[.int .i64 (decV s), .int .i64 (decK s)]) ∧ w' = w := by
  have HST := Lib.hid (DecInv.start s)
  obtain ⟨rv, hrv⟩ : ∃ rv, rv = decV s := ⟨_, rfl⟩
  obtain ⟨rk, hrk⟩ : ∃ rk, rk = decK s := ⟨_, rfl⟩
  have HBAD : Hid (∀ (k : Nat) (n : Int), decF s = (n, k) → (k = 0 ∨ (1 < k ∧ s.data.toList[0]? = some 48) ∨ 2147483647 < n) → rv = 0 ∧ rk = 0) := fun k n h hb => by rw [hrv, hrk]; exact dec_bad h hb
  have HGOOD : Hid (∀ (k : Nat) (n : Int), decF s = (n, k) → ¬ (k = 0 ∨ (1 < k ∧ s.data.toList[0]? = some 48) ∨ 2147483647 < n) → rv = n ∧ rk = k) := fun k n h hb => by rw [hrv, hrk]; exact dec_good h hb
  rw [← hrv, ← hrk]
  clear hrv hrk
  go_enter Tryd.func56, Tryd.ntmps56
  go_wp2_with fail
  go_loopw [4, 5] (fun vn vk wr => ∃ (k : Nat) (n : Int), vk = .int .i64 k ∧ vn = .int .i64 n ∧ DecInv s k n ∧ wr = w) (fun _ vk _ => (s.size - intOf vk).toNat)
  case atStart => exact ⟨0, 0, rfl, rfl, HST.out, rfl⟩
  case round =>
    obtain ⟨k, n, rfl, rfl, hinv, rfl⟩ := hrel
    have HI := Lib.hid hinv
    have n0 := hinv.lo
    have hk11 := hinv.k11
    have hkle := hinv.le
    by_cases hlt : k < s.size
    · have t1 : ((k : Int) < (s.size : Int)) := by omega
      have i0 : (0 : Int) ≤ (k : Int) := by omega
      by_cases h11 : k < 11
      · have t2 : ((k : Int) < 11) := by omega
        have hbd := hinv.bound h11
        obtain ⟨x, hx⟩ : ∃ x, s[k]'hlt = x := ⟨_, rfl⟩
        have hxb := x.toNat_lt
        clear hinv
        by_cases hd : isDig x = true
        · have hdd := (isDig_iff x).1 hd
          have t3 : ((48 : Int) ≤ (x.toNat : Int)) := by omega
          have t4 : ((x.toNat : Int) ≤ 57) := by omega
          have HS := Lib.hid (HI.out.step hlt h11 hx hd)
          have HQ : Hid (10 * n + (x.toNat : Int) - 48 = 10 * n + ((x.toNat : Int) - 48)) := by show _ = _; omega
          clear hd hdd
          go_wp2_with fail
          go_roundw
          case rel => exact ⟨k + 1, _, by go_num, by rw [HQ.out], HS.out, trivial⟩
          case measure => simp [intOf]; omega
        · have hnd : isDig x = false := by cases h : isDig x with
            | true => exact absurd h hd
            | false => rfl
          have HE := Lib.hid (HI.out.end_ (fun _ _ => hx ▸ hnd))
          by_cases h48 : (48 : Int) ≤ (x.toNat : Int)
          · have t4 : ¬ ((x.toNat : Int) ≤ 57) := fun h => hd ((isDig_iff x).2 (by omega))
            clear hd hnd
            have HB := Lib.hid (HBAD.out k n HE.out)
            have HG := Lib.hid (HGOOD.out k n HE.out)
            clear HBAD HGOOD HE
            by_cases b1 : k = 0
            · have HR := Lib.hid (HB.out (.inl b1))
              subst b1
              go_wp2_with fail
              go_ret2
              rw [HR.out.1, HR.out.2]
              exact ⟨rfl, rfl⟩
            have b1' : ((k : Int) == 0) = false := beq_eq_false_iff_ne.2 (by omega)
            have hz : 0 < s.size := by omega
            have hz' : (0 : Int) < (s.size : Int) := by omega
            obtain ⟨y, hy⟩ : ∃ y, s[0]'hz = y := ⟨_, rfl⟩
            have hgy := byte_get s 0 hz
            rw [hy] at hgy
            have HGY := Lib.hid hgy
            clear hgy
            by_cases b2 : 1 < k
            · have b2' : (1 : Int) < (k : Int) := by omega
              by_cases b3 : y = 48
              · have HR := Lib.hid (HB.out (.inr (.inl ⟨b2, b3 ▸ HGY.out⟩)))
                have t7 : ((y.toNat : Int) == 48) = true := by rw [b3]; rfl
                clear b3
                go_wp2_with fail
                go_ret2
                rw [HR.out.1, HR.out.2]
                exact ⟨rfl, rfl⟩
              have t7 : ((y.toNat : Int) == 48) = false := beq_eq_false_iff_ne.2 (fun e => b3 (UInt8.toNat_inj.1 (by show y.toNat = 48; omega)))
              have HNO : Hid (¬ (1 < k ∧ s.data.toList[0]? = some 48)) := fun e => b3 (Option.some.inj (HGY.out.symm.trans e.2))
              clear b3
              by_cases b5 : 2147483647 < n
              · have HR := Lib.hid (HB.out (.inr (.inr b5)))
                go_wp2_with fail
                go_ret2
                rw [HR.out.1, HR.out.2]
                exact ⟨rfl, rfl⟩
              · have HR := Lib.hid (HG.out (fun e => e.elim b1 (fun e => e.elim HNO.out b5)))
                go_wp2_with fail
                go_ret2
                rw [HR.out.1, HR.out.2]
                exact ⟨rfl, rfl⟩
            have b2' : ¬ (1 : Int) < (k : Int) := by omega
            have HNO : Hid (¬ (1 < k ∧ s.data.toList[0]? = some 48)) := fun e => b2 e.1
            by_cases b5 : 2147483647 < n
            · have HR := Lib.hid (HB.out (.inr (.inr b5)))
              go_wp2_with fail
              go_ret2
              rw [HR.out.1, HR.out.2]
              exact ⟨rfl, rfl⟩
            · have HR := Lib.hid (HG.out (fun e => e.elim b1 (fun e => e.elim HNO.out b5)))
              go_wp2_with fail
              go_ret2
              rw [HR.out.1, HR.out.2]
              exact ⟨rfl, rfl⟩
          · clear hd hnd
            have HB := Lib.hid (HBAD.out k n HE.out)
            have HG := Lib.hid (HGOOD.out k n HE.out)
            clear HBAD HGOOD HE
            by_cases b1 : k = 0
            · have HR := Lib.hid (HB.out (.inl b1))
              subst b1
              go_wp2_with fail
              go_ret2
              rw [HR.out.1, HR.out.2]
              exact ⟨rfl, rfl⟩
            have b1' : ((k : Int) == 0) = false := beq_eq_false_iff_ne.2 (by omega)
            have hz : 0 < s.size := by omega
            have hz' : (0 : Int) < (s.size : Int) := by omega
            obtain ⟨y, hy⟩ : ∃ y, s[0]'hz = y := ⟨_, rfl⟩
            have hgy := byte_get s 0 hz
            rw [hy] at hgy
            have HGY := Lib.hid hgy
            clear hgy
            by_cases b2 : 1 < k
            · have b2' : (1 : Int) < (k : Int) := by omega
              by_cases b3 : y = 48
              · have HR := Lib.hid (HB.out (.inr (.inl ⟨b2, b3 ▸ HGY.out⟩)))
                have t7 : ((y.toNat : Int) == 48) = true := by rw [b3]; rfl
                clear b3
                go_wp2_with fail
                go_ret2
                rw [HR.out.1, HR.out.2]
                exact ⟨rfl, rfl⟩
              have t7 : ((y.toNat : Int) == 48) = false := beq_eq_false_iff_ne.2 (fun e => b3 (UInt8.toNat_inj.1 (by show y.toNat = 48; omega)))
              have HNO : Hid (¬ (1 < k ∧ s.data.toList[0]? = some 48)) := fun e => b3 (Option.some.inj (HGY.out.symm.trans e.2))
              clear b3
              by_cases b5 : 2147483647 < n
              · have HR := Lib.hid (HB.out (.inr (.inr b5)))
                go_wp2_with fail
                go_ret2
                rw [HR.out.1, HR.out.2]
                exact ⟨rfl, rfl⟩
              · have HR := Lib.hid (HG.out (fun e => e.elim b1 (fun e => e.elim HNO.out b5)))
                go_wp2_with fail
                go_ret2
                rw [HR.out.1, HR.out.2]
                exact ⟨rfl, rfl⟩
            have b2' : ¬ (1 : Int) < (k : Int) := by omega
            have HNO : Hid (¬ (1 < k ∧ s.data.toList[0]? = some 48)) := fun e => b2 e.1
            by_cases b5 : 2147483647 < n
            · have HR := Lib.hid (HB.out (.inr (.inr b5)))
              go_wp2_with fail
              go_ret2
              rw [HR.out.1, HR.out.2]
              exact ⟨rfl, rfl⟩
            · have HR := Lib.hid (HG.out (fun e => e.elim b1 (fun e => e.elim HNO.out b5)))
              go_wp2_with fail
              go_ret2
              rw [HR.out.1, HR.out.2]
              exact ⟨rfl, rfl⟩
      · have t2 : ¬ ((k : Int) < 11) := by omega
        have HE := Lib.hid (HI.out.end_ (fun _ h => absurd h h11))
        clear hinv
        have HB := Lib.hid (HBAD.out k n HE.out)
        have HG := Lib.hid (HGOOD.out k n HE.out)
        clear HBAD HGOOD HE
        have b1 : ¬ k = 0 := by omega
        have b1' : ((k : Int) == 0) = false := beq_eq_false_iff_ne.2 (by omega)
        have hz : 0 < s.size := by omega
        have hz' : (0 : Int) < (s.size : Int) := by omega
        obtain ⟨y, hy⟩ : ∃ y, s[0]'hz = y := ⟨_, rfl⟩
        have hgy := byte_get s 0 hz
        rw [hy] at hgy
        have HGY := Lib.hid hgy
        clear hgy
        have b2 : 1 < k := by omega
        · have b2' : (1 : Int) < (k : Int) := by omega
          by_cases b3 : y = 48
          · have HR := Lib.hid (HB.out (.inr (.inl ⟨b2, b3 ▸ HGY.out⟩)))
            have t7 : ((y.toNat : Int) == 48) = true := by rw [b3]; rfl
            clear b3
            go_wp2_with fail
            go_ret2
            rw [HR.out.1, HR.out.2]
            exact ⟨rfl, rfl⟩
          have t7 : ((y.toNat : Int) == 48) = false := beq_eq_false_iff_ne.2 (fun e => b3 (UInt8.toNat_inj.1 (by show y.toNat = 48; omega)))
          have HNO : Hid (¬ (1 < k ∧ s.data.toList[0]? = some 48)) := fun e => b3 (Option.some.inj (HGY.out.symm.trans e.2))
          clear b3
          by_cases b5 : 2147483647 < n
          · have HR := Lib.hid (HB.out (.inr (.inr b5)))
            go_wp2_with fail
            go_ret2
            rw [HR.out.1, HR.out.2]
            exact ⟨rfl, rfl⟩
          · have HR := Lib.hid (HG.out (fun e => e.elim b1 (fun e => e.elim HNO.out b5)))
            go_wp2_with fail
            go_ret2
            rw [HR.out.1, HR.out.2]
            exact ⟨rfl, rfl⟩
    · have t1 : ¬ ((k : Int) < (s.size : Int)) := by omega
      have HE := Lib.hid (HI.out.end_ (fun h _ => absurd h hlt))
      clear hinv
      have HB := Lib.hid (HBAD.out k n HE.out)
      have HG := Lib.hid (HGOOD.out k n HE.out)
      clear HBAD HGOOD HE
      by_cases b1 : k = 0
      · have HR := Lib.hid (HB.out (.inl b1))
        subst b1
        go_wp2_with fail
        go_ret2
        rw [HR.out.1, HR.out.2]
        exact ⟨rfl, rfl⟩
      have b1' : ((k : Int) == 0) = false := beq_eq_false_iff_ne.2 (by omega)
      have hz : 0 < s.size := by omega
      have hz' : (0 : Int) < (s.size : Int) := by omega
      obtain ⟨y, hy⟩ : ∃ y, s[0]'hz = y := ⟨_, rfl⟩
      have hgy := byte_get s 0 hz
      rw [hy] at hgy
      have HGY := Lib.hid hgy
      clear hgy
      by_cases b2 : 1 < k
      · have b2' : (1 : Int) < (k : Int) := by omega
        by_cases b3 : y = 48
        · have HR := Lib.hid (HB.out (.inr (.inl ⟨b2, b3 ▸ HGY.out⟩)))
          have t7 : ((y.toNat : Int) == 48) = true := by rw [b3]; rfl
          clear b3
          go_wp2_with fail
          go_ret2
          rw [HR.out.1, HR.out.2]
          exact ⟨rfl, rfl⟩
        have t7 : ((y.toNat : Int) == 48) = false := beq_eq_false_iff_ne.2 (fun e => b3 (UInt8.toNat_inj.1 (by show y.toNat = 48; omega)))
        have HNO : Hid (¬ (1 < k ∧ s.data.toList[0]? = some 48)) := fun e => b3 (Option.some.inj (HGY.out.symm.trans e.2))
        clear b3
        by_cases b5 : 2147483647 < n
        · have HR := Lib.hid (HB.out (.inr (.inr b5)))
          go_wp2_with fail
          go_ret2
          rw [HR.out.1, HR.out.2]
          exact ⟨rfl, rfl⟩
        · have HR := Lib.hid (HG.out (fun e => e.elim b1 (fun e => e.elim HNO.out b5)))
          go_wp2_with fail
          go_ret2
          rw [HR.out.1, HR.out.2]
          exact ⟨rfl, rfl⟩
      have b2' : ¬ (1 : Int) < (k : Int) := by omega
      have HNO : Hid (¬ (1 < k ∧ s.data.toList[0]? = some 48)) := fun e => b2 e.1
      by_cases b5 : 2147483647 < n
      · have HR := Lib.hid (HB.out (.inr (.inr b5)))
        go_wp2_with fail
        go_ret2
        rw [HR.out.1, HR.out.2]
        exact ⟨rfl, rfl⟩
      · have HR := Lib.hid (HG.out (fun e => e.elim b1 (fun e => e.elim HNO.out b5)))
        go_wp2_with fail
        go_ret2
        rw [HR.out.1, HR.out.2]
        exact ⟨rfl, rfl⟩

end Go.Proofs.YtjollcacgnfabaaDoor
