/- Numbers in print: Itoa and Decimal at any number. -/
import Derived.Test.YtedoalpijbggiaaDoorP7
import Derived.Test.YtedoalpijbggiaaDoorP10
import Derived.Shelf.Strconv.Itoa3
import Derived.BigQuiet
import Derived.Lib.ItoaLen
import Derived.Lib.AppendIntMem
import Derived.Lib.SmallJoins
namespace Go.Proofs.YtedoalpijbggiaaDoor
open Go.RowKit Go.Lib Go.Sort
attribute [local go_sem ↓] Go.wp_at_zero Go.wp_at_succ

def numText (n : Int) : ByteArray := ⟨(Lib.itoa n).toArray⟩
theorem numText_size (n : Int) (h : -9223372036854775808 ≤ n ∧ n ≤ 9223372036854775807) : (numText n).size ≤ 21 := by
  have := Lib.itoa_length_le n h.1 h.2
  unfold numText
  show (Lib.itoa n).toArray.size ≤ 21
  simpa using this
theorem numText_digit (r : Nat) (h : r ≤ 9) : numText r = digit r := by
  unfold numText digit
  rw [Lib.itoa_nonneg, Lib.decDigits_one (by omega)]

/-- The table of powers of ten, as the world holds it. -/
def PowAt (w : World) : Prop := Lib.TabIs Tryd.prog w "internal/strconv.uint64pow10" .u64 Lib.pow10Tab
theorem PowAt.keep {B : Nat} {w w' : World} (h : PowAt w) (hb : Below B w w') (hB : w.heap.size ≤ B) : PowAt w' := by
  have hg : Tryd.prog.globalNamed "internal/strconv.uint64pow10" = some (Tryd.laysM171_ren.g 17) := by kernel_rfl
  exact Go.Joins.tab_stays hg h hb hB

theorem itoa_all (n : Int) (h : -9223372036854775808 ≤ n ∧ n ≤ 9223372036854775807) (w : World) (hP : PowAt w) :
    Calls Tryd.prog 41 #[.int .i64 n] w fun e w' => e = .returned (.string (numText n)) ∧ Below w.heap.size w w' := by
  have k : Calls Tryd.prog 41 #[.int .i64 n] w fun e w' => e = .returned (.string ⟨(Lib.itoa n).toArray⟩) ∧ ∃ k os, w' = grow (w.drewN k) os := Any.strconv_Itoa Tryd.laysM171 n h.1 h.2 w hP
  refine k.mono ?_
  rintro e w' ⟨rfl, j, os, rfl⟩
  exact ⟨rfl, below_grow _ w (Nat.le_refl _) j os⟩

theorem num_one {n : Int} (l : Nat) (h : -10 < n ∧ n < 10) (hl : l = n.natAbs) : numText n = if n < 0 then ⟨#[45]⟩ ++ digit l else digit l := by
  subst hl
  split
  · rename_i hn
    apply bytes_ext
    rw [data_append]
    unfold numText digit Lib.itoa
    rw [if_pos hn, Lib.decDigits_one (by omega)]
    rfl
  · rename_i hn
    unfold numText digit Lib.itoa
    rw [if_neg hn, Lib.decDigits_one (by omega), show n.toNat = n.natAbs by omega]
theorem num_more {n : Int} (l : Nat) (h : ¬ (-10 < n ∧ n < 10)) (hl : l = n.natAbs % 10) : numText n = numText (Int.tdiv n 10) ++ digit l := by
  subst hl
  have ha : (Int.tdiv n 10).natAbs = n.natAbs / 10 := Int.natAbs_tdiv n 10
  apply bytes_ext
  rw [data_append]
  unfold numText digit Lib.itoa
  by_cases hn : n < 0
  · have hs : Int.tdiv n 10 < 0 := by
      obtain ⟨m, rfl⟩ : ∃ m : Nat, n = -(m : Int) := ⟨n.natAbs, by omega⟩
      rw [Int.neg_tdiv, Int.tdiv_eq_ediv_of_nonneg (by omega)]
      omega
    rw [if_pos hn, if_pos hs, ha, Lib.decDigits, dif_neg (by omega), List.cons_append]
  · have hs : ¬ Int.tdiv n 10 < 0 := by
      rw [Int.tdiv_eq_ediv_of_nonneg (by omega)]
      omega
    rw [if_neg hn, if_neg hs, show (Int.tdiv n 10).toNat = n.natAbs / 10 by omega, show n.toNat = n.natAbs by omega, Lib.decDigits, dif_neg (by omega)]

theorem tmod10 (n : Int) : Int.tmod n 10 = if n < 0 then -((n.natAbs % 10 : Nat) : Int) else ((n.natAbs % 10 : Nat) : Int) := by
  split
  · obtain ⟨m, rfl⟩ : ∃ m : Nat, n = -(m : Int) := ⟨n.natAbs, by omega⟩
    rw [Int.neg_tmod, Int.tmod_eq_emod_of_nonneg (by omega)]
    omega
  · rw [Int.tmod_eq_emod_of_nonneg (by omega)]
    omega

set_option maxRecDepth 8000 in
set_option maxHeartbeats 1000000 in
theorem dec_step (m : Nat) (ih : ∀ (n : Int), n.natAbs < m → -9223372036854775808 ≤ n ∧ n ≤ 9223372036854775807 → ∀ w, Calls Tryd.prog 30 #[.int .i64 n] w fun e w' => e = .returned (.string (numText n)) ∧ Below w.heap.size w w')
    (n : Int) (hm : n.natAbs ≤ m) (h : -9223372036854775808 ≤ n ∧ n ≤ 9223372036854775807) (w : World) :
    Calls Tryd.prog 30 #[.int .i64 n] w fun e w' => e = .returned (.string (numText n)) ∧ Below w.heap.size w w' := by
  obtain ⟨l, hl⟩ : ∃ l : Nat, l = n.natAbs % 10 := ⟨_, rfl⟩
  have hl9 : l ≤ 9 := by omega
  have hc := conv1 w l (by omega) (by omega)
  have hx : (48 + (l : Int)).toNat = 48 + l := by omega
  rw [hx] at hc
  have hdl : digit l = ⟨[UInt8.ofNat (48 + l)].toArray⟩ := rfl
  rw [← hdl] at hc
  have ht := tmod10 n
  rw [← hl] at ht
  have hdz : (digit l).size = 1 := rfl
  have h45 : (⟨#[45]⟩ : ByteArray).size = 1 := rfl
  have hb : Below w.heap.size w (w.alloc (.cells #[.int .u8 (48 + (l : Int))] 5)) := (Below.refl _ _).alloc (Nat.le_refl _) _
  have HB := Lib.hid hb
  clear hx hdl hb
  by_cases hs : -10 < n ∧ n < 10
  · have HNO := Lib.hid (num_one n.natAbs hs rfl)
    have hla : n.natAbs = l := by omega
    rw [hla] at HNO
    have t2 : decide (n > -10) = true := decide_eq_true hs.1
    have t3 : decide (n < 10) = true := decide_eq_true hs.2
    clear ih hm
    by_cases hn : n < 0
    · rw [if_pos hn] at ht
      have HNO2 : Hid (numText n = ⟨#[45]⟩ ++ digit l) := HNO.out.trans (if_pos hn)
      have t1 : decide (n < 0) = true := decide_eq_true hn
      have t4 : decide ((-(l : Int)) < 0) = true := decide_eq_true (by omega)
      have hl1 : 0 < l := by omega
      clear HNO hla hl
      go_enter Tryd.func30, Tryd.ntmps30
      go_wp2_with fail
      go_ret
      rw [HNO2.out]
      exact ⟨rfl, HB.out⟩
    · rw [if_neg hn] at ht
      have HNO2 : Hid (numText n = digit l) := HNO.out.trans (if_neg hn)
      have t1 : decide (n < 0) = false := decide_eq_false hn
      have t4 : decide ((l : Int) < 0) = false := decide_eq_false (by omega)
      clear HNO hla hl
      go_enter Tryd.func30, Tryd.ntmps30
      go_wp2_with fail
      go_ret
      rw [HNO2.out]
      exact ⟨rfl, HB.out⟩
  · have HNO := Lib.hid (num_more l hs hl)
    have hd : (Int.tdiv n 10).natAbs = n.natAbs / 10 := Int.natAbs_tdiv n 10
    have hdb : -9223372036854775808 ≤ Int.tdiv n 10 ∧ Int.tdiv n 10 ≤ 9223372036854775807 := by omega
    have HI := Lib.hid (ih (Int.tdiv n 10) (by omega) hdb)
    have g1 : IntKind.i64.wrap (Int.tdiv n 10) = Int.tdiv n 10 := IntWalk.i64_in _ hdb
    have hz := numText_size _ hdb
    obtain ⟨y, hy⟩ : ∃ y, y = numText (Int.tdiv n 10) := ⟨_, rfl⟩
    rw [← hy] at HNO HI hz
    clear ih hm hy hd hdb
    by_cases hn : n < 0
    · rw [if_pos hn] at ht
      have t3 : decide (n > -10) = false := decide_eq_false (by omega)
      have t1 : decide (n < 0) = true := decide_eq_true hn
      by_cases hl1 : 0 < l
      · have t4 : decide ((-(l : Int)) < 0) = true := decide_eq_true (by omega)
        clear hl
        go_enter Tryd.func30, Tryd.ntmps30
        go_wp2_with fail
        refine (HI.out _).mono ?_
        rintro e w2 ⟨rfl, hb2⟩
        have HB2 := Lib.hid (btrans HB.out hb2)
        clear hb2
        go_wp2_with fail
        go_ret
        rw [HNO.out]
        exact ⟨rfl, HB2.out⟩
      · obtain rfl : l = 0 := by omega
        clear hl
        rw [show ((0 : Nat) : Int) = 0 from rfl, Int.add_zero] at hc HB
        go_enter Tryd.func30, Tryd.ntmps30
        go_wp2_with fail
        refine (HI.out _).mono ?_
        rintro e w2 ⟨rfl, hb2⟩
        have HB2 := Lib.hid (btrans HB.out hb2)
        clear hb2
        go_wp2_with fail
        go_ret
        rw [HNO.out]
        exact ⟨rfl, HB2.out⟩
    · rw [if_neg hn] at ht
      have t2 : decide (n > -10) = true := decide_eq_true (by omega)
      have t3 : decide (n < 10) = false := decide_eq_false (by omega)
      have t4 : decide ((l : Int) < 0) = false := decide_eq_false (by omega)
      clear hl
      go_enter Tryd.func30, Tryd.ntmps30
      go_wp2_with fail
      refine (HI.out _).mono ?_
      rintro e w2 ⟨rfl, hb2⟩
      have HB2 := Lib.hid (btrans HB.out hb2)
      clear hb2
      go_wp2_with fail
      go_ret
      rw [HNO.out]
      exact ⟨rfl, HB2.out⟩

/-- The document's Decimal, at any number. -/
theorem dec_all (n : Int) (h : -9223372036854775808 ≤ n ∧ n ≤ 9223372036854775807) (w : World) :
    Calls Tryd.prog 30 #[.int .i64 n] w fun e w' => e = .returned (.string (numText n)) ∧ Below w.heap.size w w' := by
  have all : ∀ (m : Nat) (n : Int), n.natAbs ≤ m → -9223372036854775808 ≤ n ∧ n ≤ 9223372036854775807 → ∀ w, Calls Tryd.prog 30 #[.int .i64 n] w fun e w' => e = .returned (.string (numText n)) ∧ Below w.heap.size w w' := by
    intro m
    induction m with
    | zero => exact fun n hm h w => dec_step 0 (fun k hk => by omega) n hm h w
    | succ m ih => exact fun n hm h w => dec_step (m + 1) (fun k hk => ih k (by omega)) n hm h w
  exact all n.natAbs n (Nat.le_refl _) h w

end Go.Proofs.YtedoalpijbggiaaDoor
