/- SameInts: two slices of integers, held against each other. -/
import Derived.Test.YtedoalpijbggiaaDoorIn
import Derived.Deep.RegionHeld3
namespace Go.Proofs.YtedoalpijbggiaaDoor
open Go.RowKit
attribute [local go_sem ↓] Go.wp_at_zero Go.wp_at_succ

set_option maxHeartbeats 1000000 in
theorem same_lens {w : World} (A B : Option Addr) (n m c d : Nat) (h : n ≠ m) :
    Calls Tryd.prog 25 #[.slice A n c, .slice B m d] w fun e w' => e = .returned (.bool false) ∧ w = w' := by
  have h1 : ((n : Int) != (m : Int)) = true := by rw [bne_iff_ne]; omega
  clear h
  go_enter Tryd.func25, Tryd.ntmps25
  go_wp2
  go_ret
  exact ⟨rfl, rfl⟩

set_option maxHeartbeats 1000000 in
theorem same_empty {w : World} (A B : Option Addr) (c d : Nat) :
    Calls Tryd.prog 25 #[.slice A 0 c, .slice B 0 d] w fun e w' => e = .returned (.bool true) ∧ w = w' := by
  go_enter Tryd.func25, Tryd.ntmps25
  go_wp2
  go_loop [5] (fun vi => vi = .int .i64 0) (fun _ => 0)
  case atStart => rfl
  case round =>
    obtain rfl := hrel
    go_wp2
    go_ret
    exact ⟨rfl, rfl⟩

set_option maxHeartbeats 1000000 in
theorem same_rows {w : World} {la lb : List Int} {ga oa ca gb ob cb : Nat} {sa sb : Option Nat} (ha : IntsAt w (.slice (some ⟨ga, oa, none⟩) la.length ca) la sa) (hb : IntsAt w (.slice (some ⟨gb, ob, none⟩) lb.length cb) lb sb) (hn : la.length = lb.length) :
    Calls Tryd.prog 25 #[.slice (some ⟨ga, oa, none⟩) la.length ca, .slice (some ⟨gb, ob, none⟩) lb.length cb] w fun e w' => e = .returned (.bool (decide (la = lb))) ∧ Below w.heap.size w w' := by
  have HA := Lib.hid ha
  have HB := Lib.hid hb
  have hlen := ha.2.1
  obtain ⟨n, hna⟩ : ∃ n, n = la.length := ⟨_, rfl⟩
  have hnb : n = lb.length := by omega
  rw [← hna] at hlen
  have HNA := Lib.hid hna
  have HNB := Lib.hid hnb
  rw [← hna, ← hnb]
  have h0 : ((n : Int) != (n : Int)) = false := by simp
  clear ha hb hn hna hnb
  go_enter Tryd.func25, Tryd.ntmps25
  go_wp2
  go_loopw [5] (fun vi wr => ∃ k : Nat, vi = .int .i64 k ∧ k ≤ n ∧ la.take k = lb.take k ∧ Below w.heap.size w wr) (fun vi _ => (n - intOf vi).toNat)
  case atStart => exact ⟨0, rfl, Nat.zero_le _, rfl, Below.refl _ _⟩
  case round =>
    obtain ⟨k, rfl, hk, htk, hbl⟩ := hrel
    have HT := Lib.hid htk
    clear htk
    by_cases hkn : k < n
    · have hka : k < la.length := by have := HNA.out; omega
      have hkb : k < lb.length := by have := HNB.out; omega
      have c1 := bkeep hbl (HA.out.cell k hka)
      have c2 := bkeep hbl (HB.out.cell k hkb)
      obtain ⟨x, hx⟩ : ∃ x, x = la[k] := ⟨_, rfl⟩
      obtain ⟨y, hy⟩ : ∃ y, y = lb[k] := ⟨_, rfl⟩
      rw [← hx] at c1
      rw [← hy] at c2
      have HX := Lib.hid hx
      have HY := Lib.hid hy
      have i1 : (0 : Int) ≤ (k : Int) := by omega
      have i2 : (k : Int) < (n : Int) := by omega
      clear hx hy
      by_cases hxy : x = y
      · have hd : (x != y) = false := by simp [hxy]
        have HXY := Lib.hid hxy
        clear hxy
        go_wp2_with fail
        go_region_held3 (fun w' => w'.cell? ⟨ga, oa + k, none⟩ = some (.int .i64 x) ∧ w'.cell? ⟨gb, ob + k, none⟩ = some (.int .i64 y)) (go_keep) (fail)
        go_wp2_with fail
        go_roundw
        case rel =>
          refine ⟨k + 1, by go_num, by omega, ?_, hbl.drew⟩
          have h1 := HNA.out; have h2 := HNB.out
          rw [List.take_succ_eq_append_getElem (by omega), List.take_succ_eq_append_getElem (by omega), HT.out, ← HX.out, ← HY.out, HXY.out]
        case measure => simp [intOf]; omega
      · have hd : (x != y) = true := by simp [hxy]
        have HXY := Lib.hid hxy
        clear hxy
        go_wp2_with fail
        go_region_held3 (fun w' => w'.cell? ⟨ga, oa + k, none⟩ = some (.int .i64 x) ∧ w'.cell? ⟨gb, ob + k, none⟩ = some (.int .i64 y)) (go_keep) (fail)
        go_wp2_with fail
        go_ret
        refine ⟨ret_bool (decide_eq_false fun h => HXY.out ?_).symm, hbl.drew⟩
        rw [HX.out, HY.out]; simp only [h]
    · obtain rfl : k = n := by omega
      go_wp2_with fail
      go_ret
      refine ⟨ret_bool (decide_eq_true ?_).symm, hbl⟩
      have := HT.out
      rwa [List.take_of_length_le (by rw [← HNA.out]; omega), List.take_of_length_le (by rw [← HNB.out]; omega)] at this

theorem same_any {w : World} {va vb : Value} {la lb : List Int} {sa sb : Option Nat} (ha : IntsAt w va la sa) (hb : IntsAt w vb lb sb) :
    Calls Tryd.prog 25 #[va, vb] w fun e w' => e = .returned (.bool (decide (la = lb))) ∧ Below w.heap.size w w' := by
  obtain ⟨A, c, hva⟩ := ha.form
  obtain ⟨B, d, hvb⟩ := hb.form
  by_cases hn : la.length = lb.length
  · rcases ha.2.2 with ⟨_, h0, _⟩ | ⟨ga, oa, ca, _, h1, _⟩
    · subst hva hvb
      have e1 : la = [] := List.eq_nil_of_length_eq_zero h0
      have e2 : lb = [] := List.eq_nil_of_length_eq_zero (by omega)
      subst e1 e2
      exact (same_empty A B c d).mono (fun e w' ⟨h, hw⟩ => ⟨by rw [h]; rfl, by rw [← hw]; exact Below.refl _ _⟩)
    · rcases hb.2.2 with ⟨_, h0, _⟩ | ⟨gb, ob, cb, _, h2, _⟩
      · subst hva hvb
        have e2 : lb = [] := List.eq_nil_of_length_eq_zero h0
        have e1 : la = [] := List.eq_nil_of_length_eq_zero (by omega)
        subst e1 e2
        exact (same_empty A B c d).mono (fun e w' ⟨h, hw⟩ => ⟨by rw [h]; rfl, by rw [← hw]; exact Below.refl _ _⟩)
      · subst h1 h2
        exact same_rows ha hb hn
  · subst hva hvb
    exact (same_lens A B _ _ c d hn).mono (fun e w' ⟨h, hw⟩ => ⟨by rw [h, decide_eq_false (fun e => hn (by rw [e]))], by rw [← hw]; exact Below.refl _ _⟩)

end Go.Proofs.YtedoalpijbggiaaDoor
