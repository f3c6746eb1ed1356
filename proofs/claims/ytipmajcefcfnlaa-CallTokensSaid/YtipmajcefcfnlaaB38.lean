/- Part, Most; rows of rows that came in. -/
import Derived.Test.YtipmajcefcfnlaaB37
import Derived.Deep.Matrix
namespace Go.Proofs.Ytipmajcefcfnlaa
open Go.RowKit
attribute [local go_sem ↓] Go.wp_at_zero Go.wp_at_succ

set_option maxRecDepth 8000 in
set_option maxHeartbeats 8000000 in
theorem mul_small (a b : Int) (w : World) (ha : 0 ≤ a ∧ a ≤ 6) (hb : 0 ≤ b ∧ b ≤ 4) :
    Calls Try.prog 55 #[.int .u64 a, .int .u64 b] w fun e w' => e = .returned (.tuple #[.int .u64 0, .int .u64 (a * b)]) ∧ w = w' := by
  rcases (show a = 0 ∨ a = 1 ∨ a = 2 ∨ a = 3 ∨ a = 4 ∨ a = 5 ∨ a = 6 by omega) with rfl | rfl | rfl | rfl | rfl | rfl | rfl <;>
  rcases (show b = 0 ∨ b = 1 ∨ b = 2 ∨ b = 3 ∨ b = 4 by omega) with rfl | rfl | rfl | rfl | rfl <;>
  (go_enter Try.func55, Try.ntmps55
   go_wp2
   go_ret2
   exact ⟨rfl, rfl⟩)

set_option maxRecDepth 8000 in
theorem div_small (lo y : Int) (w : World) (hl : 0 ≤ lo ∧ lo ≤ 100) (hy : 1 ≤ y ∧ y ≤ 100) :
    Calls Try.prog 56 #[.int .u64 0, .int .u64 lo, .int .u64 y] w fun e w' => e = .returned (.tuple #[.int .u64 (lo / y), .int .u64 (lo % y)]) ∧ Below w.heap.size w w' := by
  obtain ⟨l0, l1⟩ := hl
  obtain ⟨y0, y1⟩ := hy
  have t1 : (y == 0) = false := beq_eq_false_iff_ne.2 (by omega)
  have t2 : decide (y ≤ 0) = false := decide_eq_false (by omega)
  have hne : y ≠ 0 := by omega
  have hq0 : 0 ≤ lo / y := Int.ediv_nonneg l0 (by omega)
  have hq1 : lo / y ≤ lo := Int.ediv_le_self y l0
  have hr0 := Int.emod_nonneg lo hne
  have hr1 := Int.emod_lt_of_pos lo (show 0 < y by omega)
  have d1 : lo.tdiv y = lo / y := Int.tdiv_eq_ediv_of_nonneg l0
  have d2 : lo.tmod y = lo % y := Int.tmod_eq_emod_of_nonneg l0
  have d3 : IntKind.u64.wrap (lo / y) = lo / y := by unfold IntKind.wrap; simp [IntKind.bits, IntKind.signed]; omega
  go_enter Try.func56, Try.ntmps56
  go_wp2_with fail
  go_quiet (fail)
  go_wp2_with fail
  go_ret2
  exact ⟨rfl, below_drewN (Below.refl _ _)⟩

set_option maxRecDepth 8000 in
set_option maxHeartbeats 1000000 in
theorem part_any (n num den : Int) (w : World) (hn : 0 ≤ n ∧ n ≤ 6) (hm : 0 ≤ num ∧ num ≤ 4) (hd : 1 ≤ den ∧ den ≤ 7) :
    Calls Try.prog 43 #[.int .i64 n, .int .i64 num, .int .i64 den] w fun e w' => e = .returned (.int .i64 (n * num / den)) ∧ Below w.heap.size w w' := by
  have hmu : 0 ≤ n * num ∧ n * num ≤ 24 := by
    rcases (show num = 0 ∨ num = 1 ∨ num = 2 ∨ num = 3 ∨ num = 4 by omega) with e | e | e | e | e <;> rw [e] <;> omega
  have HMUL := Lib.hid (mul_small n num w hn hm)
  have HDIV := Lib.hid (fun W => div_small (n * num) den W ⟨hmu.1, by omega⟩ ⟨hd.1, by omega⟩)
  obtain ⟨z, hz⟩ : ∃ z, z = n * num := ⟨_, rfl⟩
  rw [← hz] at HMUL HDIV hmu ⊢
  obtain ⟨n0, n1⟩ := hn
  obtain ⟨m0, m1⟩ := hm
  obtain ⟨d0, d1⟩ := hd
  obtain ⟨z0, z1⟩ := hmu
  have hq0 : 0 ≤ z / den := Int.ediv_nonneg z0 (by omega)
  have hq1 : z / den ≤ z := Int.ediv_le_self den z0
  have t1 : decide (n < 0) = false := decide_eq_false (by omega)
  have t2 : decide (num < 0) = false := decide_eq_false (by omega)
  have t3 : decide (den < 1) = false := decide_eq_false (by omega)
  have t4 : decide (den ≤ 0) = false := decide_eq_false (by omega)
  clear hz
  go_enter Try.func43, Try.ntmps43
  go_wp2_with fail
  refine HMUL.out.mono ?_
  rintro e w1 ⟨rfl, rfl⟩
  go_wp2_with fail
  refine (HDIV.out _).mono ?_
  rintro e w2 ⟨rfl, hb⟩
  have HB := Lib.hid hb
  clear hb
  go_wp2_with fail
  go_ret
  exact ⟨ret_int (by omega), HB.out⟩

/-- Rows of numbers that came in. -/
def ArgRows (w : World) (A : Option Addr) (n : Nat) (rows : List (List Int)) : Prop :=
  rows.length = n ∧ n ≤ 9223372036854775807 ∧ (n = 0 ∨ ∃ b off, A = some ⟨b, off, none⟩ ∧ ∀ k l, rows[k]? = some l → ∃ Ak nk ck, w.cell? ⟨b, off + k, none⟩ = some (.slice Ak nk ck) ∧ ArgInts w Ak nk l)

theorem ArgRows.keep {w w' : World} {A : Option Addr} {n : Nat} {rows : List (List Int)} (h : ArgRows w A n rows) (hb : Below w.heap.size w w') : ArgRows w' A n rows := by
  obtain ⟨h0, h1, h2⟩ := h
  refine ⟨h0, h1, h2.imp (fun h => h) fun ⟨b, off, e, hc⟩ => ⟨b, off, e, fun k l hk => ?_⟩⟩
  obtain ⟨Ak, nk, ck, c, ha⟩ := hc k l hk
  exact ⟨Ak, nk, ck, bkeep hb c, ha.keep hb⟩

theorem argRows_nil (w : World) : ArgRows w none 0 [] := ⟨rfl, by omega, .inl rfl⟩

theorem argRows_of {w : World} {a : Addr} {len cap : Nat} {A : Nat → Option Addr} {L C : Nat → Nat} {Z : Nat → List Int} {base : Nat} (hl : len ≤ cap) (hm : cap ≤ maxLen)
    (h : ∀ r, r < cap → w.cell? (a.add r) = some (.slice (A r) (L r) (C r)) ∧ L r ≤ C r ∧ C r ≤ maxLen ∧ (Z r).length = C r ∧ (∀ n ∈ Z r, (Lit.int .i64 n).wf = true) ∧ (A r = none → C r = 0) ∧
        ∀ a', A r = some a' → base ≤ a'.block ∧ ∀ c, c < C r → w.cell? (a'.add c) = some (.int .i64 ((Z r).getD c 0))) :
    ArgRows w (some a) len ((List.range len).map fun r => (Z r).take (L r)) := by
  unfold maxLen at hm
  refine ⟨by simp, by omega, ?_⟩
  by_cases h0 : len = 0
  · exact .inl h0
  · obtain ⟨b, off, spot⟩ := a
    have hspot : spot = none := by simpa [Addr.add] using World.cell?_spot (h 0 (by omega)).1
    subst hspot
    refine .inr ⟨b, off, rfl, fun k l hk => ?_⟩
    rw [List.getElem?_map] at hk
    obtain ⟨r, hr, rfl⟩ := Option.map_eq_some_iff.1 hk
    obtain ⟨hk1, hk2⟩ := List.getElem?_eq_some_iff.1 hr
    rw [List.length_range] at hk1
    rw [List.getElem_range] at hk2
    subst hk2
    obtain ⟨c1, c2, c3, c4, c5, c6, c7⟩ := h k (by omega)
    refine ⟨A k, L k, C k, ?_, argInts_of (cap := C k) ?_⟩
    · rw [Addr.add_lit] at c1; exact c1
    · cases hA : A k with
      | none =>
        have := c6 hA
        exact .inl ⟨rfl, by omega, this, List.eq_nil_of_length_eq_zero (by omega)⟩
      | some a' =>
        exact .inr ⟨a', rfl, c2, c3, c4, fun i hi => (c7 a' hA).2 i (by omega), c5⟩

end Go.Proofs.Ytipmajcefcfnlaa
