/- ServerTime: the walk (printed by wip/tools/gen37s.py). -/
import Derived.Test.YtchjlkfkfcmhlaaDoorS36
namespace Go.Proofs.YtchjlkfkfcmhlaaDoor
open Go.RowKit
attribute [local go_sem ↓] Go.wp_at_zero Go.wp_at_succ

theorem NewS.keep {w w1 : World} {sb : Nat} {hz : Int} {s : Sv} {w' : World} (h : NewS w1 sb hz s w') (hb : Below w.heap.size w w1) : NewS w sb hz s w' := by
  obtain ⟨D, h1, h2, h3, h4, h5⟩ := h
  exact ⟨D, h1, h2, h3, fun b e => Nat.le_trans hb.size (h4 b e), btrans hb h5⟩
/-- A run behind 'made' writes nothing old. -/
theorem run_below {w w1 w2 : World} {D D' : SD} (hb : Below w.heap.size w w1) (hn : ∀ b, D.who b ≠ 0 → w.heap.size ≤ b) (m : Mv w1 D w2 D') : Below w.heap.size w w2 :=
  ((Fr.ofBelow (F := fun _ => False) hb).trans m.1 (fun b e => .inr (hn b e))).toBelow fun _ _ h => h

set_option maxRecDepth 8000 in
set_option maxHeartbeats 8000000 in
theorem time_walk {w : World} (hM : MaxLenAt w) (n : Int) (hn : -9223372036854775808 ≤ n ∧ n ≤ 9223372036854775807) {A : Option Addr} {k : Nat} {l : List Int} (hA : ArgInts w A k l) (cap : Nat) :
    Calls Tryd.prog 5 #[.int .i64 n, .slice A k cap] w fun e w' => e = .returned (.bool true) ∧ Below w.heap.size w w' := by
  have HSV := Lib.hid (fun w => service_any n hn w)
  have HMD := Lib.hid (fun w => made_any (svOf n) 10 w)
  have HM := Lib.hid hM
  have HA := Lib.hid hA
  clear hM hA hn
  go_enter Tryd.func5, Tryd.ntmps5
  go_wp2_with fail
  refine (HSV.out _).mono ?_
  rintro e W1 ⟨rfl, b1⟩
  have HB1 := Lib.hid b1
  clear b1
  go_wp2_with fail
  refine (HMD.out _).mono ?_
  rintro e W2 ⟨sb, rfl, hNS⟩
  obtain ⟨D, sr2, ok2, ht2, hn2, b2⟩ := hNS.keep HB1.out
  have HRN := Lib.hid (run_any sr2 (Glob.new HM.out b2 hn2) ok2 (svOf_ok n) (by decide) (HA.out.keep b2) cap true)
  have HB2 := Lib.hid b2
  have HN2 := Lib.hid hn2
  clear hNS sr2 ok2 ht2 hn2 b2
  go_wp2_with fail
  refine HRN.out.mono ?_
  rintro e W3 ⟨D', all, ob, now, va, rfl, hR, hn0, hn1, hok, hlen, hRI⟩
  obtain ⟨la, lc, rfl⟩ := hRI.r.form
  obtain ⟨m, hm⟩ : ∃ m, m = all.length := ⟨_, rfl⟩
  rw [← hm] at hRI hlen ⊢
  have HT := Lib.hid hR.time
  have HR := Lib.hid hRI.r
  have HB3 := Lib.hid (run_below HB2.out HN2.out hRI.mv)
  have HMM := Lib.hid hm
  have HLV : Hid (∀ W, Below W3.heap.size W3 W → Calls Tryd.prog 17 #[] W fun e w' => e = .returned (.bool true) ∧ Below W.heap.size W w') := fun W hb => lives_any (HM.out.below HM.out.lt (btrans HB3.out hb))
  clear hR hn0 hn1 hok hRI hm
  go_wp2_with fail
  go_loopw [8] (fun vi wr => ∃ i : Nat, vi = .int .i64 i ∧ i ≤ m ∧ Below W3.heap.size W3 wr) (fun vi _ => (m - intOf vi).toNat)
  case atStart => exact ⟨0, rfl, Nat.zero_le _, Below.refl _ _⟩
  case round =>
    obtain ⟨i, rfl, hi, hbl⟩ := hrel
    have HBL := Lib.hid hbl
    clear hbl
    by_cases him : i < m
    · have t0 : decide ((i : Int) < (m : Int)) = true := decide_eq_true (by omega)
      obtain ⟨x, hx⟩ : ∃ x, all[i]? = some x := ⟨_, List.getElem?_eq_getElem (by have := HMM.out; omega)⟩
      have hti := HT.out x (List.mem_of_getElem? hx)
      obtain ⟨g, off, lc', e1, e2, hcl⟩ := HR.out.cellsL (by have := HMM.out; omega)
      have hq := hcl wr (HBL.out.block _ (HR.out.lt g e2)) i x hx
      rw [← HMM.out] at e1
      injection e1 with e1 e3 e4
      subst e1
      have q0 : wr.cell? ⟨g, off + i * 13, none⟩ = some (.int .i64 x.1.what) := hq 0 _ rfl
      have q1 : wr.cell? ⟨g, off + i * 13 + 1, none⟩ = some (.int .i64 x.1.c.req) := hq 1 _ rfl
      have q2 : wr.cell? ⟨g, off + i * 13 + 2, none⟩ = some (.string x.1.c.call) := hq 2 _ rfl
      have q3 : wr.cell? ⟨g, off + i * 13 + 3, none⟩ = some (.int .i64 x.1.c.try_) := hq 3 _ rfl
      have q4 : wr.cell? ⟨g, off + i * 13 + 4, none⟩ = some (.bool x.1.c.idem) := hq 4 _ rfl
      have q5 : wr.cell? ⟨g, off + i * 13 + 5, none⟩ = some (.bool x.1.c.shadow) := hq 5 _ rfl
      have q6 : wr.cell? ⟨g, off + i * 13 + 6, none⟩ = some (.int .i64 x.1.c.dl) := hq 6 _ rfl
      have q7 : wr.cell? ⟨g, off + i * 13 + 7, none⟩ = some (.int .i64 x.1.c.purse) := hq 7 _ rfl
      have q8 : wr.cell? ⟨g, off + i * 13 + 8, none⟩ = some (.int .i64 x.1.c.ver) := hq 8 _ rfl
      have q9 : wr.cell? ⟨g, off + i * 13 + 9, none⟩ = some (.int .i64 x.1.c.prio) := hq 9 _ rfl
      have q10 : wr.cell? ⟨g, off + i * 13 + 10, none⟩ = some (.bool x.1.eff) := hq 10 _ rfl
      have q11 : wr.cell? ⟨g, off + i * 13 + 11, none⟩ = some (.int .i64 x.1.e) := hq 11 _ rfl
      have q12 : wr.cell? ⟨g, off + i * 13 + 12, none⟩ = some (.int .i64 x.2) := hq 12 _ rfl
      have i1 : (0 : Int) ≤ (i : Int) := by omega
      have i2 : (i : Int) < (m : Int) := by omega
      have HBX : Hid (Below W3.heap.size W3 (wr.alloc (.cells #[.int .i64 x.1.what, .int .i64 x.1.c.req, .string x.1.c.call, .int .i64 x.1.c.try_, .bool x.1.c.idem, .bool x.1.c.shadow, .int .i64 x.1.c.dl, .int .i64 x.1.c.purse, .int .i64 x.1.c.ver, .int .i64 x.1.c.prio, .bool x.1.eff, .int .i64 x.1.e, .int .i64 x.2] 42))) := HBL.out.alloc HBL.out.size _
      clear hx e2 e3 e4 hcl hq
      rcases hti with ⟨h1, h2, h3⟩ | ⟨h1, h2⟩ | ⟨h1, h2, h3 | h3 | ⟨h3, h4⟩⟩
      · rw [h1] at q0
        rw [h3] at q11
        have t2 : decide (x.1.c.dl ≤ x.2) = false := decide_eq_false (by omega)
        clear h1 h2 h3
        go_wp2_with fail
        go_roundw
        case rel => exact ⟨i + 1, by go_num, by omega, HBL.out.alloc HBL.out.size _⟩
        case measure => simp [intOf]; omega
      · rw [h1] at q0
        rw [h2] at q11
        clear h1 h2
        go_wp2_with fail
        go_roundw
        case rel => exact ⟨i + 1, by go_num, by omega, HBL.out.alloc HBL.out.size _⟩
        case measure => simp [intOf]; omega
      · rw [h1] at q0
        rw [h3] at q11
        rw [h2] at q10
        clear h1 h2 h3
        go_wp2_with fail
        go_roundw
        case rel => exact ⟨i + 1, by go_num, by omega, HBL.out.alloc HBL.out.size _⟩
        case measure => simp [intOf]; omega
      · rw [h1] at q0
        rw [h3] at q11
        rw [h2] at q10
        clear h1 h2 h3
        go_wp2_with fail
        go_roundw
        case rel => exact ⟨i + 1, by go_num, by omega, HBL.out.alloc HBL.out.size _⟩
        case measure => simp [intOf]; omega
      · rw [h1] at q0
        rw [h3] at q11
        rw [h2] at q10
        have t2 : decide (x.2 < x.1.c.dl) = false := decide_eq_false (by omega)
        clear h1 h2 h3 h4
        go_wp2_with fail
        go_roundw
        case rel => exact ⟨i + 1, by go_num, by omega, HBL.out.alloc HBL.out.size _⟩
        case measure => simp [intOf]; omega
    · have t0 : decide ((i : Int) < (m : Int)) = false := decide_eq_false (by omega)
      have HLW := Lib.hid (HLV.out wr HBL.out)
      have HBW := Lib.hid (btrans HB3.out HBL.out)
      go_wp2_with fail
      refine HLW.out.mono ?_
      rintro e W9 ⟨rfl, b9⟩
      go_wp2_with fail
      go_ret
      exact ⟨rfl, btrans HBW.out b9⟩

end Go.Proofs.YtchjlkfkfcmhlaaDoor
