/- The walk of CallBeside. -/
import Derived.Test.YtipmajcefcfnlaaB30
namespace Go.Proofs.Ytipmajcefcfnlaa
open Go.RowKit
attribute [local go_sem ↓] Go.wp_at_zero Go.wp_at_succ

def polB (y : Pol) : Pol := { y with hedge := 1 + y.back }

set_option maxRecDepth 8000 in
set_option maxHeartbeats 2000000 in
theorem beside_walk {w : World} {A A' : Option Addr} {n n' : Nat} {l p : List Int} (h : ArgInts w A n l) (h' : ArgInts w A' n' p) (cap cap' : Nat) :
    Calls Try.prog 7 #[.slice A n cap, .slice A' n' cap'] w fun e w' => e = .returned (.bool true) ∧ Below w.heap.size w w' := by
  have HCX := Lib.hid (ctx_any h cap)
  have H' := Lib.hid h'
  clear h h'
  go_enter Try.func7, Try.ntmps7
  go_wp2_with fail
  refine HCX.out.mono ?_
  rintro e w1 ⟨s, hs, rfl, hb1⟩
  have hxb := ctxOf_bd l s
  obtain ⟨x, hx⟩ : ∃ x, x = ctxOf l s := ⟨_, rfl⟩
  rw [← hx] at hxb ⊢
  have HXB := Lib.hid hxb
  have HB1 := Lib.hid hb1
  dsimp only [cxVal]
  clear hx hxb hb1
  go_wp2_with fail
  obtain ⟨W2, hW2⟩ : ∃ W2, W2 = w1.alloc (.cells #[.int .i64 x.req, .string x.call, .int .i64 x.try_, .bool x.idem, .bool x.shadow, .int .i64 x.dl, .int .i64 x.purse, .int .i64 x.ver, .int .i64 x.prio] 25) := ⟨_, rfl⟩
  rw [← hW2]
  have hb2 : Below w1.heap.size w1 W2 := by rw [hW2]; exact (Below.refl _ _).alloc (Nat.le_refl _) _
  have k5 : W2.heap[w1.heap.size]? = some (.cells #[.int .i64 x.req, .string x.call, .int .i64 x.try_, .bool x.idem, .bool x.shadow, .int .i64 x.dl, .int .i64 x.purse, .int .i64 x.ver, .int .i64 x.prio] 25 (0, 0)) := by rw [hW2]; exact heap_alloc_new _ _
  have hb2' := btrans HB1.out hb2
  have hz2 : w1.heap.size < W2.heap.size := by rw [hW2]; simp
  have hw12 := hb2.size
  obtain ⟨b5, hb5⟩ : ∃ b, b = w1.heap.size := ⟨_, rfl⟩
  rw [← hb5] at k5 hz2 ⊢
  clear hb5 hW2
  refine (pol_any (H'.out.keep hb2') cap').mono ?_
  rintro e w3 ⟨rfl, hb3⟩
  have hyb := polOf_bd p
  obtain ⟨y, hy⟩ : ∃ y, y = polOf p := ⟨_, rfl⟩
  rw [← hy] at hyb ⊢
  have HYB := Lib.hid hyb
  have m5 := (hb3.block _ hz2).trans k5
  have hb3' := btrans hb2' hb3
  have hz3 := hb3.size
  dsimp only [polVal]
  obtain ⟨⟨y1, y2⟩, ⟨y3, y4⟩, ⟨y5, y6⟩, _, _, ⟨y7, y8⟩, ⟨y9, y10⟩⟩ := hyb
  clear hy hb2 hb3 hb2' k5
  go_wp2_with fail
  obtain ⟨W4, hW4⟩ : ∃ W4, W4 = w3.alloc (.cells #[.int .i64 y.tmo, .int .i64 y.tries, .int .i64 y.back, .int .i64 (1 + y.back), .int .i64 y.per, .int .i64 y.of, .int .i64 y.burst] 29) := ⟨_, rfl⟩
  rw [← hW4]
  have hb4 : Below w3.heap.size w3 W4 := by rw [hW4]; exact (Below.refl _ _).alloc (Nat.le_refl _) _
  have k6 : W4.heap[w3.heap.size]? = some (.cells #[.int .i64 y.tmo, .int .i64 y.tries, .int .i64 y.back, .int .i64 (1 + y.back), .int .i64 y.per, .int .i64 y.of, .int .i64 y.burst] 29 (0, 0)) := by rw [hW4]; exact heap_alloc_new _ _
  have hz4 : w3.heap.size < W4.heap.size := by rw [hW4]; simp
  have hb4' := btrans hb3' hb4
  have k5 := (hb4.block _ (by omega)).trans m5
  obtain ⟨b6, hb6⟩ : ∃ b, b = w3.heap.size := ⟨_, rfl⟩
  have hb6' : w3.heap.size ≤ b6 := Nat.le_of_eq hb6.symm
  rw [← hb6] at k6 hz4 ⊢
  clear hb6 hW4 m5 hb4 hb3'
  refine (bnew_any _ _ _ _ ⟨by omega, by omega⟩ ⟨by omega, by omega⟩).mono ?_
  rintro e w5 ⟨bb, rfl, hbb, hbk, hb5⟩
  have hbok : Bk.Ok (fullBk y) := by
    have hm : 0 ≤ y.burst * y.of ∧ y.burst * y.of ≤ 1000000 := by
      obtain ⟨a, ha⟩ : ∃ a : Nat, y.of = a := ⟨y.of.toNat, by omega⟩
      obtain ⟨b, hb⟩ : ∃ b : Nat, y.burst = b := ⟨y.burst.toNat, by omega⟩
      rw [ha, hb]
      have : b * a ≤ 1000 * 1000 := Nat.mul_le_mul (by omega) (by omega)
      exact ⟨by rw [← Int.natCast_mul]; omega, by rw [← Int.natCast_mul]; omega⟩
    have := HYB.out
    exact ⟨by show 1 ≤ y.of ∧ y.of ≤ _; omega, by show 0 ≤ y.per ∧ y.per ≤ _; omega, ⟨hm.1, Int.le_refl _⟩, hm.2⟩
  replace hbk : BkAt w5 bb (fullBk y) := hbk
  have hz5 := hb5.size
  have n5 := (hb5.block _ (by omega)).trans k5
  have n6 := (hb5.block _ hz4).trans k6
  have hb5' := btrans hb4' hb5
  have HLF := Lib.hid (left_any hbk hbok)
  have HBK := Lib.hid hbk
  have HBOK := Lib.hid hbok
  have hq : (fullBk y).parts / (fullBk y).of = y.burst := by show y.burst * y.of / y.of = _; exact Int.mul_ediv_cancel _ (by omega)
  rw [hq] at HLF
  clear k5 k6 hb5 hb4' hbk hbok hq
  go_wp2_with fail
  refine HLF.out.mono ?_
  rintro e w6 ⟨rfl, hb6⟩
  have hz6 := hb6.size
  have m5 := (hb6.block _ (by omega)).trans n5
  have m6 := (hb6.block _ (by omega)).trans n6
  have hbk6 := (hb6.block _ (Array.getElem?_eq_some_iff.1 HBK.out).1).trans HBK.out
  have hb6'' := btrans hb5' hb6
  have c0 := block_cell m5 0 _ rfl
  have c1 := block_cell m5 1 _ rfl
  have c2 := block_cell m5 2 _ rfl
  have c3 := block_cell m5 3 _ rfl
  have c4 := block_cell m5 4 _ rfl
  have c5 := block_cell m5 5 _ rfl
  have c6 := block_cell m5 6 _ rfl
  have c7 := block_cell m5 7 _ rfl
  have c8 := block_cell m5 8 _ rfl
  have e0 := block_cell m6 0 _ rfl
  have e1 := block_cell m6 1 _ rfl
  have e2 := block_cell m6 2 _ rfl
  have e3 := block_cell m6 3 _ rfl
  have e4 := block_cell m6 4 _ rfl
  have e5 := block_cell m6 5 _ rfl
  have e6 := block_cell m6 6 _ rfl
  have M5 := Lib.hid m5
  have M6 := Lib.hid m6
  have HBK6 := Lib.hid hbk6
  have HB6 := Lib.hid hb6''
  clear n5 n6 hb6 hb5' m5 m6 hbk6 hb6''
  go_wp2_with fail
  clear c0 c1 c2 c3 c4 c5 c6 c7 c8 e0 e1 e2 e3 e4 e5 e6
  refine (cnew_any x (polB y) bb _).mono ?_
  rintro e w7 ⟨cb, mb, rfl, hcall, hcb, hmb, hb7⟩
  have hz7 := hb7.size
  have hbl : bb < w6.heap.size := (Array.getElem?_eq_some_iff.1 HBK6.out).1
  have hat : CallAt w7 cb mb bb (newS x (polB y)) (fullBk y) := ⟨hcall, (hb7.block _ hbl).trans HBK6.out, hcall.ne, by omega, by omega⟩
  have m5 := (hb7.block _ (by omega)).trans M5.out
  have m6 := (hb7.block _ (by omega)).trans M6.out
  have hb7' := btrans HB6.out hb7
  have hbw : w.heap.size ≤ bb := by have := HB1.out.size; omega
  have hcw : w.heap.size ≤ cb ∧ w.heap.size ≤ mb := by have := HB6.out.size; omega
  have hok0 : (newS x (polB y)).Ok := newS_ok (by show 0 ≤ y.tmo ∧ y.tmo ≤ _; omega) (by show y.tries ≤ 8; omega) (by show 0 ≤ y.back ∧ y.back ≤ _; omega) (by show 0 ≤ 1 + y.back ∧ 1 + y.back ≤ _; omega) (by have := HXB.out; show 0 ≤ x.dl ∧ x.dl ≤ _; omega) (by have := HXB.out; show 0 ≤ x.purse ∧ x.purse ≤ _; omega)
  have HOK1 : Hid ((newS x (polB y)).first.Ok) := hok0.act (hok0.begin (by show (0 : Int) < 8; omega) (by omega))
  have HC0 : Hid (Calls Try.prog 11 #[.pointer (some ⟨cb, 0, none⟩), .int .i64 0] w7 (Did w7 cb mb bb (newS x (polB y)).first (fullBk y) (newS x (polB y)).firstL)) := begin_any hat hok0 (by show (0 : Int) < 8; omega) 0 (by omega)
  have hlt := hcall.lt
  have M5' := Lib.hid m5
  have M6' := Lib.hid m6
  have HB7 := Lib.hid hb7'
  clear hcall hb7 hat m5 m6 hb7' hok0
  go_wp2_with fail
  refine HC0.out.mono ?_
  rintro e w8 ⟨v0, rfl, ⟨h1, _, f1⟩⟩
  have hz8 := f1.size
  have m5 := (f1.block _ (by omega) (by unfold CFoot; omega)).trans M5'.out
  have m6 := (f1.block _ (by omega) (by unfold CFoot; omega)).trans M6'.out
  have HF1 := Lib.hid f1
  have HA1 := Lib.hid h1
  have c5 := block_cell m5 5 _ rfl
  have e0 := block_cell m6 0 _ rfl
  have e3 := block_cell m6 3 _ rfl
  have M5'' := Lib.hid m5
  have M6'' := Lib.hid m6
  have HBW : Hid (∀ W, Fr (CFoot cb mb bb) w8 W → Below w.heap.size w W) := fun W hW => ((Fr.ofBelow (F := CFoot cb mb bb) HB7.out).trans (HF1.out.trans hW (fun _ h => .inl h)) (fun _ h => .inl h)).toBelow fun k hk hc => by unfold CFoot at hc; omega
  clear h1 f1 m5 m6
  by_cases hc : 1 + y.back < y.tmo ∧ 1 + y.back < x.dl
  · obtain ⟨hc1, hc2⟩ := hc
    have t1 : decide (y.tmo ≤ 1 + y.back) = false := decide_eq_false (by omega)
    have t2 : decide (x.dl ≤ 1 + y.back) = false := decide_eq_false (by omega)
    have hS := first_eq (x := x) (y := polB y) (by have := HXB.out; omega)
    have hw1 := beside_wait (x := x) (y := polB y) hS (now := 1 + y.back - 1) (by show _ < y.tmo; omega) (by omega) (by show _ < 1 + y.back; omega) (fullBk y)
    have HW1 : Hid (Calls Try.prog 19 #[.pointer (some ⟨cb, 0, none⟩), .int .i64 (1 + y.back - 1)] w8 (Did w8 cb mb bb (newS x (polB y)).first (fullBk y) (actL (newS x (polB y)).first ((newS x (polB y)).first.wakeS (1 + y.back - 1) (fullBk y)) ((newS x (polB y)).first.wakeL (1 + y.back - 1) (fullBk y))))) := by
      have := wake_any HA1.out HOK1.out HBOK.out (1 + y.back - 1) (by omega)
      rw [hw1.1, hw1.2] at this
      exact this
    have hgo := beside_goes (x := x) (y := polB y) hS (by show 1 ≤ 1 + y.back; omega) (by show 1 + y.back < y.tmo; omega) (by show 1 + y.back < x.dl; omega) ⟨by show 1 ≤ y.of; omega, by show y.of ≤ 7; omega⟩ ⟨by show 0 ≤ y.burst; omega, by show y.burst < 6; omega⟩
    have hm1 : (newS x (polB y)).first.made = 1 := first_made (by have := HXB.out; omega)
    obtain ⟨S1, hS1⟩ : ∃ S1, S1 = (newS x (polB y)).first := ⟨_, rfl⟩
    rw [← hS1] at hgo hm1 HW1 HOK1
    have hsz : (polB y).hedge = 1 + y.back := rfl
    have hfb : fullBk (polB y) = fullBk y := rfl
    rw [hsz, hfb] at hgo
    have HGO := Lib.hid hgo
    have HM1 := Lib.hid hm1
    clear hS hw1 hgo hm1 hS1 hsz hfb HC0 HLF
    go_wp2_with fail
    refine HW1.out.mono ?_
    rintro e w9 ⟨v2, rfl, ⟨h2, _, f2⟩⟩
    have hz9 := f2.size
    have m5 := (f2.block _ (by omega) (by unfold CFoot; omega)).trans M5''.out
    have m6 := (f2.block _ (by omega) (by unfold CFoot; omega)).trans M6''.out
    have e3' := block_cell m6 3 _ rfl
    have HF2 := Lib.hid f2
    have HTR1 : Hid (Calls Try.prog 16 #[.pointer (some ⟨cb, 0, none⟩)] w9 fun e w' => e = .returned (.int .i64 1) ∧ w' = w9) := by
      have := tries_any h2.call
      rw [HM1.out] at this; exact this
    have HW2 := Lib.hid (wake_any h2 HOK1.out HBOK.out (1 + y.back) (by omega))
    have HOK2 : Hid ((actS S1 (S1.wakeS (1 + y.back) (fullBk y))).Ok) := HOK1.out.act (HOK1.out.wake (by omega) _)
    have M5 := Lib.hid m5
    have M6 := Lib.hid m6
    clear h2 f2 m5 m6 HW1
    go_wp2_with fail
    refine HTR1.out.mono ?_
    rintro e w9' ⟨rfl, rfl⟩
    go_wp2_with fail
    refine HW2.out.mono ?_
    rintro e w10 ⟨v3, rfl, ⟨h3, _, f3⟩⟩
    have m5 := (f3.block _ (by omega) (by unfold CFoot; omega)).trans M5.out
    have m6 := (f3.block _ (by omega) (by unfold CFoot; omega)).trans M6.out
    have c6 := block_cell m5 6 _ rfl
    have e1 := block_cell m6 1 _ rfl
    have HF3 := Lib.hid f3
    have HA3 := Lib.hid h3
    obtain ⟨x0, x1⟩ : 0 ≤ x.purse ∧ x.purse < 10 := HXB.out.2
    clear h3 f3 m5 m6 HW2 HTR1
    rcases (show ¬ 2 ≤ y.tries ∨ (2 ≤ y.tries ∧ ¬ 1 ≤ x.purse - x.purse / 2) ∨ (2 ≤ y.tries ∧ 1 ≤ x.purse - x.purse / 2 ∧ ¬ 1 ≤ y.burst) ∨ (2 ≤ y.tries ∧ 1 ≤ x.purse - x.purse / 2 ∧ 1 ≤ y.burst) by omega) with g | g | g | g
    · have z : mayB x (polB y) = false := by
        unfold mayB
        show (decide (2 ≤ y.tries) && decide (1 ≤ x.purse - x.purse / 2) && decide (1 ≤ y.burst)) = false
        rw [decide_eq_false (by omega : ¬ 2 ≤ y.tries)]; simp
      rw [z] at HGO
      have u1 : decide (2 ≤ y.tries) = false := decide_eq_false (by omega)
      have HTR : Hid (Calls Try.prog 16 #[.pointer (some ⟨cb, 0, none⟩)] w10 fun e w' => e = .returned (.int .i64 1) ∧ w' = w10) := by
        have := tries_any HA3.out.call
        rw [HGO.out.1] at this; exact this
      clear z
      go_wp2_with fail
      refine HTR.out.mono ?_
      rintro e w' ⟨rfl, rfl⟩
      go_wp2_with fail
      refine (lives_any _).mono ?_
      rintro e w11 ⟨rfl, hb11⟩
      have HFIN := Lib.hid (HBW.out _ ((HF2.out.trans HF3.out (fun _ h => .inl h)).trans (Fr.ofBelow (F := CFoot cb mb bb) hb11) (fun _ h => .inl h)))
      clear hb11
      go_wp2_with fail
      go_ret
      exact ⟨rfl, HFIN.out⟩
    · have z : mayB x (polB y) = false := by
        unfold mayB
        show (decide (2 ≤ y.tries) && decide (1 ≤ x.purse - x.purse / 2) && decide (1 ≤ y.burst)) = false
        rw [decide_eq_false (by omega : ¬ 1 ≤ x.purse - x.purse / 2)]; simp
      rw [z] at HGO
      have u1 : decide (2 ≤ y.tries) = true := decide_eq_true (by omega)
      have u2 : decide (1 ≤ x.purse - x.purse / 2) = false := decide_eq_false (by omega)
      have HTR : Hid (Calls Try.prog 16 #[.pointer (some ⟨cb, 0, none⟩)] w10 fun e w' => e = .returned (.int .i64 1) ∧ w' = w10) := by
        have := tries_any HA3.out.call
        rw [HGO.out.1] at this; exact this
      clear z
      go_wp2_with fail
      refine HTR.out.mono ?_
      rintro e w' ⟨rfl, rfl⟩
      go_wp2_with fail
      refine (lives_any _).mono ?_
      rintro e w11 ⟨rfl, hb11⟩
      have HFIN := Lib.hid (HBW.out _ ((HF2.out.trans HF3.out (fun _ h => .inl h)).trans (Fr.ofBelow (F := CFoot cb mb bb) hb11) (fun _ h => .inl h)))
      clear hb11
      go_wp2_with fail
      go_ret
      exact ⟨rfl, HFIN.out⟩
    · have z : mayB x (polB y) = false := by
        unfold mayB
        show (decide (2 ≤ y.tries) && decide (1 ≤ x.purse - x.purse / 2) && decide (1 ≤ y.burst)) = false
        rw [decide_eq_false (by omega : ¬ 1 ≤ y.burst)]; simp
      rw [z] at HGO
      have u1 : decide (2 ≤ y.tries) = true := decide_eq_true (by omega)
      have u2 : decide (1 ≤ x.purse - x.purse / 2) = true := decide_eq_true (by omega)
      have u3 : decide (1 ≤ y.burst) = false := decide_eq_false (by omega)
      have HTR : Hid (Calls Try.prog 16 #[.pointer (some ⟨cb, 0, none⟩)] w10 fun e w' => e = .returned (.int .i64 1) ∧ w' = w10) := by
        have := tries_any HA3.out.call
        rw [HGO.out.1] at this; exact this
      clear z
      go_wp2_with fail
      refine HTR.out.mono ?_
      rintro e w' ⟨rfl, rfl⟩
      go_wp2_with fail
      refine (lives_any _).mono ?_
      rintro e w11 ⟨rfl, hb11⟩
      have HFIN := Lib.hid (HBW.out _ ((HF2.out.trans HF3.out (fun _ h => .inl h)).trans (Fr.ofBelow (F := CFoot cb mb bb) hb11) (fun _ h => .inl h)))
      clear hb11
      go_wp2_with fail
      go_ret
      exact ⟨rfl, HFIN.out⟩
    · have z : mayB x (polB y) = true := by
        unfold mayB
        show (decide (2 ≤ y.tries) && decide (1 ≤ x.purse - x.purse / 2) && decide (1 ≤ y.burst)) = true
        rw [decide_eq_true g.1, decide_eq_true g.2.1, decide_eq_true g.2.2]; rfl
      rw [z] at HGO
      have u1 : decide (2 ≤ y.tries) = true := decide_eq_true (by omega)
      have u2 : decide (1 ≤ x.purse - x.purse / 2) = true := decide_eq_true (by omega)
      have u3 : decide (1 ≤ y.burst) = true := decide_eq_true (by omega)
      have HTR : Hid (Calls Try.prog 16 #[.pointer (some ⟨cb, 0, none⟩)] w10 fun e w' => e = .returned (.int .i64 2) ∧ w' = w10) := by
        have := tries_any HA3.out.call
        rw [HGO.out.1] at this; exact this
      have HOW := Lib.hid (own_any HA3.out.call HOK2.out)
      clear z
      go_wp2_with fail
      refine HTR.out.mono ?_
      rintro e w' ⟨rfl, rfl⟩
      go_wp2_with fail
      refine HOW.out.mono ?_
      rintro e w11 ⟨v4, sb, rfl, hi, hfr, hb11⟩
      obtain ⟨la, lc, rfl⟩ := hi.form
      rw [List.length_map, HGO.out.2]
      have HB11 := Lib.hid hb11
      clear hi hfr hb11
      go_wp2_with fail
      refine (lives_any _).mono ?_
      rintro e w12 ⟨rfl, hb12⟩
      have HFIN := Lib.hid (HBW.out _ (((HF2.out.trans HF3.out (fun _ h => .inl h)).trans (Fr.ofBelow (F := CFoot cb mb bb) HB11.out) (fun _ h => .inl h)).trans (Fr.ofBelow (F := CFoot cb mb bb) hb12) (fun _ h => .inl h)))
      clear hb12
      go_wp2_with fail
      go_ret
      exact ⟨rfl, HFIN.out⟩
  · have hlv := Lib.hid (fun W => lives_any W)
    by_cases hc1 : y.tmo ≤ 1 + y.back
    · have t1 : decide (y.tmo ≤ 1 + y.back) = true := decide_eq_true hc1
      clear hc
      go_wp2_with fail
      refine (hlv.out _).mono ?_
      rintro e w9 ⟨rfl, hb9⟩
      have HB9 := Lib.hid (HBW.out _ (Fr.ofBelow hb9))
      clear hb9
      go_wp2_with fail
      go_ret
      exact ⟨rfl, HB9.out⟩
    · have t1 : decide (y.tmo ≤ 1 + y.back) = false := decide_eq_false hc1
      have t2 : decide (x.dl ≤ 1 + y.back) = true := decide_eq_true (by omega)
      clear hc
      go_wp2_with fail
      refine (hlv.out _).mono ?_
      rintro e w9 ⟨rfl, hb9⟩
      have HB9 := Lib.hid (HBW.out _ (Fr.ofBelow hb9))
      clear hb9
      go_wp2_with fail
      go_ret
      exact ⟨rfl, HB9.out⟩

end Go.Proofs.Ytipmajcefcfnlaa
