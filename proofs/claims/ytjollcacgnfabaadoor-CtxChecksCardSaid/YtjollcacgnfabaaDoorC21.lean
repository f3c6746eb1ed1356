/- The document's Up, Depth; Short. -/
import Derived.Test.YtjollcacgnfabaaDoorC15
namespace Go.Proofs.YtjollcacgnfabaaDoor
open Go.RowKit
attribute [local go_sem ↓] Go.wp_at_zero Go.wp_at_succ

theorem up_hit (s : ByteArray) (i : Nat) (hi : i < s.size) (h1 : s.data.toList[i]? = some 47) (h2 : ∀ j, i < j → j < s.size → s.data.toList[j]? ≠ some 47) : upOf s = s.extract 0 i := by
  have hl : Lib.lastIndexByte s 47 = (i : Int) := by
    rcases Lib.lastIndexByte_spec s 47 with ⟨_, h⟩ | ⟨k, k1, k2, k3, k4⟩
    · exact absurd ((byte_at s i hi 47).2 h1) (h i hi)
    · have k3' := (byte_at s k k1 47).1 k3
      have hge : ¬ k < i := fun e => k4 i e hi ((byte_at s i hi 47).2 h1)
      have hle : ¬ i < k := fun e => h2 k e k1 k3'
      rw [k2]; congr 1; omega
  have hm : (max (Lib.lastIndexByte s 47) 0).toNat = i := by rw [hl]; omega
  unfold upOf
  rw [hm]
theorem up_none (s : ByteArray) (h : ∀ j, j < s.size → s.data.toList[j]? ≠ some 47) : upOf s = ⟨#[]⟩ := by
  have hl : Lib.lastIndexByte s 47 = -1 := by
    rcases Lib.lastIndexByte_spec s 47 with ⟨h, _⟩ | ⟨k, k1, k2, k3, k4⟩
    · exact h
    · exact absurd ((byte_at s k k1 47).1 k3) (h k k1)
  unfold upOf
  rw [hl]
  exact Lib.extract_eq s 0 0

set_option maxRecDepth 8000 in
set_option maxHeartbeats 1000000 in
theorem rup_any (s : ByteArray) (hs : s.size ≤ 1000000) (w : World) :
    Calls Tryd.prog 18 #[.string s] w fun e w' => e = .returned (.string (upOf s)) ∧ w' = w := by
  have HH := Lib.hid (up_hit s)
  have HN := Lib.hid (up_none s)
  obtain ⟨y, hy⟩ : ∃ y, y = upOf s := ⟨_, rfl⟩
  rw [← hy] at HH HN ⊢
  clear hy
  go_enter Tryd.func18, Tryd.ntmps18
  go_wp2_with fail
  go_loopw [3] (fun v wr => ∃ k : Nat, v = .int .i64 ((k : Int) - 1) ∧ k ≤ s.size ∧ (∀ j, k ≤ j → j < s.size → s.data.toList[j]? ≠ some 47) ∧ wr = w) (fun v _ => (intOf v + 1).toNat)
  case atStart => exact ⟨s.size, rfl, Nat.le_refl _, fun j h1 h2 => by omega, rfl⟩
  case round =>
    obtain ⟨k, rfl, hk, hno, rfl⟩ := hrel
    by_cases h0 : k = 0
    · subst h0
      have HE := Lib.hid (HN.out (fun j hj => hno j (Nat.zero_le _) hj))
      clear hno
      go_wp2_with fail
      go_ret
      rw [HE.out]
      exact ⟨rfl, rfl⟩
    · obtain ⟨i, rfl⟩ : ∃ i, k = i + 1 := ⟨k - 1, by omega⟩
      have hi : i < s.size := by omega
      rw [show ((i + 1 : Nat) : Int) - 1 = (i : Int) by omega]
      have i0 : (0 : Int) ≤ (i : Int) := by omega
      have i1 : (i : Int) < (s.size : Int) := by omega
      have i2 : (i : Int) ≤ (s.size : Int) := by omega
      obtain ⟨x, hx⟩ : ∃ x, s[i]'hi = x := ⟨_, rfl⟩
      have hg := byte_get s i hi
      rw [hx] at hg
      have HNO := Lib.hid hno
      have HG := Lib.hid hg
      clear hno hg
      by_cases h47 : x = 47
      · have HE := Lib.hid (HH.out i hi (h47 ▸ HG.out) (fun j h1 h2 => HNO.out j (by omega) h2))
        have t1 : ((x.toNat : Int) == 47) = true := by rw [h47]; rfl
        clear h47
        go_wp2_with fail
        go_ret
        rw [HE.out]
        exact ⟨rfl, rfl⟩
      · have t1 : ((x.toNat : Int) == 47) = false := beq_eq_false_iff_ne.2 (fun e => h47 (UInt8.toNat_inj.1 (by show x.toNat = 47; omega)))
        have HNEW : Hid (∀ j, i ≤ j → j < s.size → s.data.toList[j]? ≠ some 47) := fun j h1 h2 => by
          by_cases e : j = i
          · subst e; rw [HG.out]; exact fun e => h47 (Option.some.inj e)
          · exact HNO.out j (by omega) h2
        clear h47
        go_wp2_with fail
        go_roundw
        case rel => exact ⟨i, by go_num, by omega, HNEW.out, trivial⟩
        case measure => simp [intOf]

theorem depth_take (s : ByteArray) (i : Nat) (hi : i < s.size) : ((s.data.toList.take (i + 1)).count 47 : Int) = (s.data.toList.take i).count 47 + (if s[i] = 47 then 1 else 0) := by
  have h2 : i < s.data.toList.length := by rw [← Lib.size_eq s]; exact hi
  rw [List.take_succ_eq_append_getElem h2, List.count_append, show s.data.toList[i] = s[i] from rfl]
  by_cases e : s[i] = 47
  · rw [if_pos e, e]; simp
  · rw [if_neg e]; simp [e]

set_option maxRecDepth 8000 in
set_option maxHeartbeats 1000000 in
theorem rdepth_any (s : ByteArray) (hs : s.size ≤ 1000000) (w : World) :
    Calls Tryd.prog 20 #[.string s] w fun e w' => e = .returned (.int .i64 (depthOf s)) ∧ w' = w := by
  have HE : Hid (depthOf s = ((s.data.toList.take s.size).count 47 : Nat)) := by
    show depthOf s = _
    unfold depthOf Lib.countByte
    rw [List.take_of_length_le (by rw [← Lib.size_eq s]; exact Nat.le_refl _)]
  have HT := Lib.hid (depth_take s)
  have HB : Hid (∀ i : Nat, ((s.data.toList.take i).count 47 : Int) ≤ 1000000) := fun i => by
    have h1 := List.count_le_length (a := (47 : UInt8)) (l := s.data.toList.take i)
    rw [List.length_take, ← Lib.size_eq s] at h1
    omega
  rw [HE.out]
  go_enter Tryd.func20, Tryd.ntmps20
  go_wp2_with fail
  go_loopw [3, 4] (fun vn vi wr => ∃ i : Nat, vi = .int .i64 i ∧ i ≤ s.size ∧ vn = .int .i64 ((s.data.toList.take i).count 47 : Nat) ∧ wr = w) (fun _ vi _ => (s.size - intOf vi).toNat)
  case atStart => exact ⟨0, rfl, Nat.zero_le _, rfl, rfl⟩
  case round =>
    obtain ⟨i, rfl, hi, rfl, rfl⟩ := hrel
    by_cases hlt : i < s.size
    · have i0 : (0 : Int) ≤ (i : Int) := by omega
      have i1 : (i : Int) < (s.size : Int) := by omega
      obtain ⟨x, hx⟩ : ∃ x, s[i]'hlt = x := ⟨_, rfl⟩
      have ht := HT.out i hlt
      have hb := HB.out i
      rw [hx] at ht
      obtain ⟨c, hc⟩ : ∃ c, c = (s.data.toList.take i).count 47 := ⟨_, rfl⟩
      rw [← hc] at ht hb ⊢
      by_cases h47 : x = 47
      · rw [if_pos h47] at ht
        have HQ := Lib.hid ht
        have t1 : ((x.toNat : Int) == 47) = true := by rw [h47]; rfl
        clear h47 ht hc
        go_wp2_with fail
        go_roundw
        case rel => exact ⟨i + 1, by go_num, by omega, by rw [HQ.out], trivial⟩
        case measure => simp [intOf]; omega
      · rw [if_neg h47, Int.add_zero] at ht
        have HQ := Lib.hid ht
        have t1 : ((x.toNat : Int) == 47) = false := beq_eq_false_iff_ne.2 (fun e => h47 (UInt8.toNat_inj.1 (by show x.toNat = 47; omega)))
        clear h47 ht hc
        go_wp2_with fail
        go_roundw
        case rel => exact ⟨i + 1, by go_num, by omega, by rw [HQ.out], trivial⟩
        case measure => simp [intOf]; omega
    · obtain rfl : i = s.size := by omega
      have t1 : ¬ ((s.size : Int) < (s.size : Int)) := by omega
      go_wp2_with fail
      go_ret
      exact ⟨rfl, rfl⟩

def shortOf (s : ByteArray) (m : Nat) : ByteArray := if m < s.size then s.extract 0 m else s
theorem shortOf_size (s : ByteArray) (m : Nat) : (shortOf s m).size ≤ m := by
  unfold shortOf
  split
  · rw [ByteArray.size_extract]; omega
  · omega
theorem short_any (s : ByteArray) (m : Nat) (hm : m ≤ 1000) (w : World) :
    Calls Tryd.prog 11 #[.string s, .int .i64 m] w fun e w' => e = .returned (.string (shortOf s m)) ∧ w' = w := by
  by_cases h : m < s.size
  · have HE : Hid (shortOf s m = s.extract 0 m) := if_pos h
    have t1 : ((m : Int) < (s.size : Int)) := by omega
    have i0 : (0 : Int) ≤ (m : Int) := by omega
    have i1 : (m : Int) ≤ (s.size : Int) := by omega
    go_enter Tryd.func11, Tryd.ntmps11
    go_wp2_with fail
    go_ret
    rw [HE.out]
    exact ⟨rfl, rfl⟩
  · have HE : Hid (shortOf s m = s) := if_neg h
    have t1 : ¬ ((m : Int) < (s.size : Int)) := by omega
    go_enter Tryd.func11, Tryd.ntmps11
    go_wp2_with fail
    go_ret
    rw [HE.out]
    exact ⟨rfl, rfl⟩

end Go.Proofs.YtjollcacgnfabaaDoor
