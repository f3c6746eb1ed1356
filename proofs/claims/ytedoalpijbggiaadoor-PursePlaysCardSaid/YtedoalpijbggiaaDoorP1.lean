/- The ledger: Half, Left, Sum, has. -/
import Derived.Test.YtedoalpijbggiaaDoorMap
import Derived.Test.YtedoalpijbggiaaDoorIn
import Derived.BigQuiet
namespace Go.Proofs.YtedoalpijbggiaaDoor
open Go.RowKit
attribute [local go_sem ↓] Go.wp_at_zero Go.wp_at_succ

theorem below_drewN {n nq : Nat} {w w' : World} (h : Below n w w') : Below n w (w'.drewN nq) := ⟨h.os, h.tape, h.output, h.size, h.block⟩

theorem half_any (n : Int) (w : World) (h0 : 0 ≤ n) (h1 : n ≤ 9223372036854775807) :
    Calls Tryd.prog 27 #[.int .i64 n] w fun e w' => e = .returned (.tuple #[.int .i64 (n / 2), .int .i64 (n - n / 2)]) ∧ w' = w := by
  have hq : n.tdiv 2 = n / 2 := Int.tdiv_eq_ediv_of_nonneg h0
  have hq0 : 0 ≤ n / 2 := Int.ediv_nonneg h0 (by omega)
  have hq1 : n / 2 ≤ n := Int.ediv_le_self 2 h0
  go_enter Tryd.func27, Tryd.ntmps27
  go_wp2
  go_ret2
  exact ⟨by simp, rfl⟩

abbrev mapS (s : ByteArray) : Value := .string s
abbrev mapI (n : Int) : Value := .int .i64 n

/-- A ledger: what each holder has; what each request was minted with, and what of it is spent. -/
structure Led where
  left : ByteArray → Int
  sums : Int → Option (Int × Int)

def Led.sum (L : Led) (r : Int) : Int × Int := (L.sums r).getD (0, 0)
def sumV (x : Int × Int) : Value := .agg #[.int .i64 x.1, .int .i64 x.2]

/-- A ledger in memory: the block gb holds its two maps. -/
structure LedAt (w : World) (gb lb sb : Nat) (L : Led) : Prop where
  cells : w.heap[gb]? = some (.cells #[.map (some lb), .map (some sb)] 62 (0, 0))
  left : ∃ m, MapAt mapS w lb m ∧ ∀ s, (mget m s).getD (.int .i64 0) = .int .i64 (L.left s)
  sums : ∃ m, MapAt mapI w sb m ∧ ∀ r, mget m r = (L.sums r).map sumV
  ne : gb ≠ lb ∧ gb ≠ sb ∧ lb ≠ sb

def LFoot (gb lb sb k : Nat) : Prop := k = gb ∨ k = lb ∨ k = sb

theorem LedAt.keep {w w' : World} {gb lb sb : Nat} {L : Led} (h : LedAt w gb lb sb L) (hb : ∀ k, LFoot gb lb sb k → w'.heap[k]? = w.heap[k]?) : LedAt w' gb lb sb L := by
  obtain ⟨h1, ⟨m, h2, h2'⟩, ⟨m', h3, h3'⟩, h4⟩ := h
  exact ⟨(hb _ (.inl rfl)).trans h1, ⟨m, h2.keep (hb _ (.inr (.inl rfl))), h2'⟩, ⟨m', h3.keep (hb _ (.inr (.inr rfl))), h3'⟩, h4⟩
theorem LedAt.lt {w : World} {gb lb sb : Nat} {L : Led} (h : LedAt w gb lb sb L) : ∀ k, LFoot gb lb sb k → k < w.heap.size := by
  obtain ⟨h1, ⟨m, h2, h2'⟩, ⟨m', h3, h3'⟩, h4⟩ := h
  rintro k (rfl | rfl | rfl)
  · exact (Array.getElem?_eq_some_iff.1 h1).1
  · exact h2.lt
  · exact h3.lt
theorem LedAt.below {w w' : World} {gb lb sb : Nat} {L : Led} (h : LedAt w gb lb sb L) (hb : Below w.heap.size w w') : LedAt w' gb lb sb L :=
  h.keep fun k hk => hb.block k (h.lt k hk)

theorem LedAt.look_left {w : World} {gb lb sb : Nat} {L : Led} (h : LedAt w gb lb sb L) (s : ByteArray) :
    (Instr.lookup 59 (.map (some lb)) (.string s) false).run Tryd.prog w = .ok (.int .i64 (L.left s)) w := by
  obtain ⟨m, hm, hg⟩ := h.left
  have hl := run_lookup_at (string_law Tryd.underlying9) hm Tryd.underlying59 (z := .int .i64 0) (by kernel_rfl) s false
  simpa only [Bool.false_eq_true, if_false, hg] using hl

theorem LedAt.look_sum {w : World} {gb lb sb : Nat} {L : Led} (h : LedAt w gb lb sb L) (r : Int) (ok : Bool) :
    (Instr.lookup 60 (.map (some sb)) (.int .i64 r) ok).run Tryd.prog w = .ok (if ok then .tuple #[.agg #[.int .i64 (L.sum r).1, .int .i64 (L.sum r).2], .bool (L.sums r).isSome] else .agg #[.int .i64 (L.sum r).1, .int .i64 (L.sum r).2]) w := by
  obtain ⟨m, hm, hg⟩ := h.sums
  have hl := run_lookup_at (int_law Tryd.underlying3) hm Tryd.underlying60 (z := .agg #[.int .i64 0, .int .i64 0]) (by kernel_rfl) r ok
  rw [hg] at hl
  have e1 : ((L.sums r).map sumV).getD (.agg #[.int .i64 0, .int .i64 0]) = .agg #[.int .i64 (L.sum r).1, .int .i64 (L.sum r).2] := by unfold Led.sum; cases L.sums r <;> rfl
  have e2 : ((L.sums r).map sumV).isSome = (L.sums r).isSome := by cases L.sums r <;> rfl
  rw [e1, e2] at hl
  exact hl

set_option maxRecDepth 8000 in
theorem left_any {w : World} {gb lb sb : Nat} {L : Led} (h : LedAt w gb lb sb L) (s : ByteArray) :
    Calls Tryd.prog 17 #[.pointer (some ⟨gb, 0, none⟩), .string s] w fun e w' => e = .returned (.int .i64 (L.left s)) ∧ w' = w := by
  have c0 := block_cell h.cells 0 _ rfl
  have hl := h.look_left s
  clear h
  go_enter Tryd.func17, Tryd.ntmps17
  go_wp2
  go_ret
  exact ⟨rfl, rfl⟩

set_option maxRecDepth 8000 in
theorem sum_any {w : World} {gb lb sb : Nat} {L : Led} (h : LedAt w gb lb sb L) (r : Int)
    (hb : 0 ≤ (L.sum r).1 ∧ (L.sum r).1 ≤ 4611686018427387903) (hc : 0 ≤ (L.sum r).2 ∧ (L.sum r).2 ≤ 4611686018427387903) :
    Calls Tryd.prog 18 #[.pointer (some ⟨gb, 0, none⟩), .int .i64 r] w fun e w' => e = .returned (.tuple #[.int .i64 ((L.sum r).1 - (L.sum r).2), .int .i64 (L.sum r).2]) ∧ Below w.heap.size w w' := by
  have c1 := block_cell h.cells 1 _ rfl
  have hl := h.look_sum r false
  simp only [Bool.false_eq_true, if_false] at hl
  obtain ⟨a, ha⟩ : ∃ a, a = (L.sum r).1 := ⟨_, rfl⟩
  obtain ⟨b, hb'⟩ : ∃ b, b = (L.sum r).2 := ⟨_, rfl⟩
  rw [← ha, ← hb'] at hl ⊢
  rw [← ha] at hb
  rw [← hb'] at hc
  obtain ⟨b0, b1⟩ := hb
  obtain ⟨d0, d1⟩ := hc
  have g1 : IntKind.i64.wrap (a - b) = a - b := IntWalk.i64_in _ (by omega)
  clear h ha hb'
  go_enter Tryd.func18, Tryd.ntmps18
  go_wp2_with fail
  go_quiet (fail)
  go_wp2_with fail
  go_ret2
  exact ⟨rfl, below_drewN ((Below.refl _ _).alloc (Nat.le_refl _) _)⟩

/-- Why a holder may not give so much. -/
def Led.hasE (L : Led) (r : Int) (s : ByteArray) (n : Int) : Int := if (L.sums r).isSome = false then 4 else if L.left s < n then 30 else 0

set_option maxRecDepth 8000 in
theorem has_any {w : World} {gb lb sb : Nat} {L : Led} (h : LedAt w gb lb sb L) (r : Int) (s : ByteArray) (n : Int) :
    Calls Tryd.prog 37 #[.pointer (some ⟨gb, 0, none⟩), .int .i64 r, .string s, .int .i64 n] w fun e w' => e = .returned (.int .i64 (L.hasE r s n)) ∧ Below w.heap.size w w' := by
  have c0 := block_cell h.cells 0 _ rfl
  have c1 := block_cell h.cells 1 _ rfl
  have hl := h.look_sum r true
  simp only [if_true] at hl
  have hl2 := fun (w' : World) (hb : Below w.heap.size w w') => (h.below hb).look_left s
  obtain ⟨a, ha⟩ : ∃ a, a = (L.sum r).1 := ⟨_, rfl⟩
  obtain ⟨b, hb'⟩ : ∃ b, b = (L.sum r).2 := ⟨_, rfl⟩
  rw [← ha, ← hb'] at hl
  have hl3 := hl2 _ ((Below.refl _ _).alloc (Nat.le_refl _) (.cells #[.int .i64 a, .int .i64 b] 69))
  have c0' := akeep c0 (.cells #[.int .i64 a, .int .i64 b] 69)
  have HE : Hid (L.hasE r s n = if (L.sums r).isSome = false then 4 else if L.left s < n then 30 else 0) := rfl
  clear hl2 ha hb' h
  cases ho : (L.sums r).isSome with
  | false =>
    rw [ho] at hl HE
    have HE2 : Hid (L.hasE r s n = 4) := HE.out.trans (if_pos rfl)
    go_enter Tryd.func37, Tryd.ntmps37
    go_wp2
    go_ret
    rw [HE2.out]
    exact ⟨rfl, (Below.refl _ _).alloc (Nat.le_refl _) _⟩
  | true =>
    rw [ho] at hl HE
    have HE2 : Hid (L.hasE r s n = if L.left s < n then 30 else 0) := HE.out.trans (if_neg (by decide))
    clear HE ho
    by_cases hn : L.left s < n
    · have HE3 : Hid (L.hasE r s n = 30) := HE2.out.trans (if_pos hn)
      go_enter Tryd.func37, Tryd.ntmps37
      go_wp2
      go_ret
      rw [HE3.out]
      exact ⟨rfl, (Below.refl _ _).alloc (Nat.le_refl _) _⟩
    · have HE3 : Hid (L.hasE r s n = 0) := HE2.out.trans (if_neg hn)
      go_enter Tryd.func37, Tryd.ntmps37
      go_wp2
      go_ret
      rw [HE3.out]
      exact ⟨rfl, (Below.refl _ _).alloc (Nat.le_refl _) _⟩

end Go.Proofs.YtedoalpijbggiaaDoor
