/- The walk of CallBack. -/
import Derived.Test.YtipmajcefcfnlaaB32
namespace Go.Proofs.Ytipmajcefcfnlaa
open Go.RowKit
attribute [local go_sem ↓] Go.wp_at_zero Go.wp_at_succ

def polK (y : Pol) : Pol := { y with hedge := 0, tmo := 5000 }

/-- What the loop knows. -/
structure BInv (w8 wr : World) (cb mb bb : Nat) (x : Cx) (y : Pol) (m : Nat) (t bk : Int) : Prop where
  it : ∃ S B, CallAt wr cb mb bb S B ∧ BackS x y S (m + 1) t ∧ B.Ok
  fr : Fr (CFoot cb mb bb) w8 wr
  t : 0 ≤ t ∧ t ≤ 400
  bk : bk = y.back * 2 ^ m

/-- A number, in the same world. -/
def IsNow (n : Int) (w : World) (v : Value) (w' : World) : Prop := v = .int .i64 n ∧ w' = w

theorem wait1_ok {S : CS} (h : S.Ok) {at_ : Int} (ha0 : -1000000000 ≤ at_ ∧ at_ ≤ 1000000) : (S.wait1 at_).Ok :=
  { h with dueAt := fun _ => ⟨ha0.1, by show at_ ≤ _; omega⟩, keys := List.Pairwise.nil, keyb := fun x hx => (by cases hx), ats := fun x hx => (by cases hx) }

/-- Behind the early wake. -/
def EarlyS (wd : World) (cb mb bb : Nat) (S : CS) (B : Bk) (wx : World) : Prop := CallAt wx cb mb bb S B ∧ Fr (CFoot cb mb bb) wd wx

theorem pow_bd {b : Int} (hb : 0 ≤ b ∧ b < 20) {m : Nat} (hm : m ≤ 8) : 0 ≤ b * 2 ^ m ∧ b * 2 ^ m ≤ 6000 := by
  match m, hm with
  | 0, _ => simp; omega
  | 1, _ => simp; omega
  | 2, _ => simp; omega
  | 3, _ => simp; omega
  | 4, _ => simp; omega
  | 5, _ => simp; omega
  | 6, _ => simp; omega
  | 7, _ => simp; omega
  | 8, _ => simp; omega
  | m + 9, hm => omega

set_option maxRecDepth 8000 in
set_option maxHeartbeats 2000000 in
theorem back_walk {w : World} {A A' A2 : Option Addr} {n n' n2 : Nat} {l p d : List Int} (h : ArgInts w A n l) (h' : ArgInts w A' n' p) (h2 : ArgInts w A2 n2 d) (cap cap' cap2 : Nat) :
    Calls Try.prog 6 #[.slice A n cap, .slice A' n' cap', .slice A2 n2 cap2] w fun e w' => e = .returned (.bool true) ∧ Below w.heap.size w w' := by
  have HCX := Lib.hid (ctx_any h cap)
  have H' := Lib.hid h'
  have H2 := Lib.hid h2
  clear h h' h2
  go_enter Try.func6, Try.ntmps6
  go_wp2_with fail
  refine HCX.out.mono ?_
  rintro e w1 ⟨s, hs, rfl, hb1⟩
  have hxb := ctxOf_bd l s
  obtain ⟨x, hx⟩ : ∃ x, x = ctxOf l s := ⟨_, rfl⟩
  rw [← hx] at hxb ⊢
  have HXB := Lib.hid hxb
  have HB1 := Lib.hid hb1
  dsimp only [cxVal]
  clear hx hxb hb1
  go_wp2_with fail
  obtain ⟨W2, hW2⟩ : ∃ W2, W2 = w1.alloc (.cells #[.int .i64 x.req, .string x.call, .int .i64 x.try_, .bool x.idem, .bool x.shadow, .int .i64 x.dl, .int .i64 x.purse, .int .i64 x.ver, .int .i64 x.prio] 25) := ⟨_, rfl⟩
  rw [← hW2]
  have hb2 : Below w1.heap.size w1 W2 := by rw [hW2]; exact (Below.refl _ _).alloc (Nat.le_refl _) _
  have k5 : W2.heap[w1.heap.size]? = some (.cells #[.int .i64 x.req, .string x.call, .int .i64 x.try_, .bool x.idem, .bool x.shadow, .int .i64 x.dl, .int .i64 x.purse, .int .i64 x.ver, .int .i64 x.prio] 25 (0, 0)) := by rw [hW2]; exact heap_alloc_new _ _
  have hb2' := btrans HB1.out hb2
  have hz2 : w1.heap.size < W2.heap.size := by rw [hW2]; simp
  have hw12 := hb2.size
  obtain ⟨b5, hb5⟩ : ∃ b, b = w1.heap.size := ⟨_, rfl⟩
  rw [← hb5] at k5 hz2 ⊢
  clear hb5 hW2
  refine (pol_any (H'.out.keep hb2') cap').mono ?_
  rintro e w3 ⟨rfl, hb3⟩
  have hyb := polOf_bd p
  obtain ⟨y, hy⟩ : ∃ y, y = polOf p := ⟨_, rfl⟩
  rw [← hy] at hyb ⊢
  have HYB := Lib.hid hyb
  have m5 := (hb3.block _ hz2).trans k5
  have hb3' := btrans hb2' hb3
  have hz3 := hb3.size
  dsimp only [polVal]
  obtain ⟨⟨y1, y2⟩, ⟨y3, y4⟩, ⟨y5, y6⟩, _, _, ⟨y7, y8⟩, ⟨y9, y10⟩⟩ := hyb
  clear hy hb2 hb3 hb2' k5
  go_wp2_with fail
  obtain ⟨W4, hW4⟩ : ∃ W4, W4 = w3.alloc (.cells #[.int .i64 5000, .int .i64 y.tries, .int .i64 y.back, .int .i64 0, .int .i64 y.per, .int .i64 y.of, .int .i64 y.burst] 29) := ⟨_, rfl⟩
  rw [← hW4]
  have hb4 : Below w3.heap.size w3 W4 := by rw [hW4]; exact (Below.refl _ _).alloc (Nat.le_refl _) _
  have k6 : W4.heap[w3.heap.size]? = some (.cells #[.int .i64 5000, .int .i64 y.tries, .int .i64 y.back, .int .i64 0, .int .i64 y.per, .int .i64 y.of, .int .i64 y.burst] 29 (0, 0)) := by rw [hW4]; exact heap_alloc_new _ _
  have hz4 : w3.heap.size < W4.heap.size := by rw [hW4]; simp
  have hb4' := btrans hb3' hb4
  have k5 := (hb4.block _ (by omega)).trans m5
  obtain ⟨b6, hb6⟩ : ∃ b, b = w3.heap.size := ⟨_, rfl⟩
  have hb6' : w3.heap.size ≤ b6 := Nat.le_of_eq hb6.symm
  rw [← hb6] at k6 hz4 ⊢
  clear hb6 hW4 m5 hb4 hb3'
  refine (bnew_any _ _ _ _ ⟨by omega, by omega⟩ ⟨by omega, by omega⟩).mono ?_
  rintro e w5 ⟨bb, rfl, hbb, hbk, hb5⟩
  have hbok : Bk.Ok (fullBk y) := by
    have hm : 0 ≤ y.burst * y.of ∧ y.burst * y.of ≤ 1000000 := by
      obtain ⟨a, ha⟩ : ∃ a : Nat, y.of = a := ⟨y.of.toNat, by omega⟩
      obtain ⟨b, hb⟩ : ∃ b : Nat, y.burst = b := ⟨y.burst.toNat, by omega⟩
      rw [ha, hb]
      have : b * a ≤ 1000 * 1000 := Nat.mul_le_mul (by omega) (by omega)
      exact ⟨by rw [← Int.natCast_mul]; omega, by rw [← Int.natCast_mul]; omega⟩
    have := HYB.out
    exact ⟨by show 1 ≤ y.of ∧ y.of ≤ _; omega, by show 0 ≤ y.per ∧ y.per ≤ _; omega, ⟨hm.1, Int.le_refl _⟩, hm.2⟩
  replace hbk : BkAt w5 bb (fullBk y) := hbk
  have hz5 := hb5.size
  have n5 := (hb5.block _ (by omega)).trans k5
  have n6 := (hb5.block _ hz4).trans k6
  have hb5' := btrans hb4' hb5
  have m5 := n5
  have m6 := n6
  have HBK := Lib.hid hbk
  have HBOK := Lib.hid hbok
  have HB6 := Lib.hid hb5'
  clear k5 k6 hb5 hb4' hbk hbok hb5'
  have c0 := block_cell m5 0 _ rfl
  have c1 := block_cell m5 1 _ rfl
  have c2 := block_cell m5 2 _ rfl
  have c3 := block_cell m5 3 _ rfl
  have c4 := block_cell m5 4 _ rfl
  have c5 := block_cell m5 5 _ rfl
  have c6 := block_cell m5 6 _ rfl
  have c7 := block_cell m5 7 _ rfl
  have c8 := block_cell m5 8 _ rfl
  have e0 := block_cell m6 0 _ rfl
  have e1 := block_cell m6 1 _ rfl
  have e2 := block_cell m6 2 _ rfl
  have e3 := block_cell m6 3 _ rfl
  have e4 := block_cell m6 4 _ rfl
  have e5 := block_cell m6 5 _ rfl
  have e6 := block_cell m6 6 _ rfl
  have M5 := Lib.hid m5
  have M6 := Lib.hid m6
  clear m5 m6 n5 n6
  go_wp2_with fail
  clear c0 c1 c2 c3 c4 c5 c6 c7 c8 e0 e1 e2 e3 e4 e5 e6
  refine (cnew_any x (polK y) bb _).mono ?_
  rintro e w7 ⟨cb, mb, rfl, hcall, hcb, hmb, hb7⟩
  have hz7 := hb7.size
  have hbl : bb < w5.heap.size := (Array.getElem?_eq_some_iff.1 HBK.out).1
  have hat : CallAt w7 cb mb bb (newS x (polK y)) (fullBk y) := ⟨hcall, (hb7.block _ hbl).trans HBK.out, hcall.ne, by omega, by omega⟩
  have m5 := (hb7.block _ (by omega)).trans M5.out
  have m6 := (hb7.block _ (by omega)).trans M6.out
  have hb7' := btrans HB6.out hb7
  have hbw : w.heap.size ≤ bb := by have := HB1.out.size; omega
  have hcw : w.heap.size ≤ cb ∧ w.heap.size ≤ mb := by have := HB6.out.size; omega
  have hok0 : (newS x (polK y)).Ok := newS_ok (by show (0 : Int) ≤ 5000 ∧ (5000 : Int) ≤ _; omega) (by show y.tries ≤ 8; omega) (by show 0 ≤ y.back ∧ y.back ≤ _; omega) (by show (0 : Int) ≤ 0 ∧ (0 : Int) ≤ _; omega) (by have := HXB.out; show 0 ≤ x.dl ∧ x.dl ≤ _; omega) (by have := HXB.out; show 0 ≤ x.purse ∧ x.purse ≤ _; omega)
  have HOK1 : Hid ((newS x (polK y)).first.Ok) := hok0.act (hok0.begin (by show (0 : Int) < 8; omega) (by omega))
  have HC0 : Hid (Calls Try.prog 11 #[.pointer (some ⟨cb, 0, none⟩), .int .i64 0] w7 (Did w7 cb mb bb (newS x (polK y)).first (fullBk y) (newS x (polK y)).firstL)) := begin_any hat hok0 (by show (0 : Int) < 8; omega) 0 (by omega)
  have hlt := hcall.lt
  have M5' := Lib.hid m5
  have M6' := Lib.hid m6
  have HB7 := Lib.hid hb7'
  clear hcall hb7 hat m5 m6 hb7' hok0
  go_wp2_with fail
  refine HC0.out.mono ?_
  rintro e w8 ⟨v0, rfl, ⟨h1, _, f1⟩⟩
  have hz8 := f1.size
  have m5 := (f1.block _ (by omega) (by unfold CFoot; omega)).trans M5'.out
  have m6 := (f1.block _ (by omega) (by unfold CFoot; omega)).trans M6'.out
  have HF1 := Lib.hid f1
  have HA1 := Lib.hid h1
  have c5 := block_cell m5 5 _ rfl
  have e2 := block_cell m6 2 _ rfl
  have e1 := block_cell m6 1 _ rfl
  have M5'' := Lib.hid m5
  have M6'' := Lib.hid m6
  have HBW : Hid (∀ W, Fr (CFoot cb mb bb) w8 W → Below w.heap.size w W) := fun W hW => ((Fr.ofBelow (F := CFoot cb mb bb) HB7.out).trans (HF1.out.trans hW (fun _ h => .inl h)) (fun _ h => .inl h)).toBelow fun k hk hc => by unfold CFoot at hc; omega
  clear h1 f1 m5 m6
  have HINV : Hid (BInv w8 w8 cb mb bb x (polK y) 0 0 y.back) := by
    have hS := first_eq (x := x) (y := polK y) (by have := HXB.out; omega)
    refine ⟨⟨_, _, HA1.out, ⟨by rw [hS], by rw [hS], ⟨firstC x, by rw [hS]; rfl⟩, by rw [hS]; rfl, by rw [hS], by rw [hS], HOK1.out⟩, HBOK.out⟩, Fr.refl _ _, ⟨Int.le_refl _, by omega⟩, ?_⟩
    show y.back = y.back * 2 ^ 0
    simp
  have HARG := Lib.hid (H2.out.keep (HBW.out w8 (Fr.refl _ _)))
  go_wp2_with fail
  clear c5 e1 e2
  go_loopw [11, 12, 13] (fun vt vb vn wr => ∃ (m : Nat) (t bk : Int), vt = .int .i64 t ∧ vb = .int .i64 bk ∧ vn = .int .i64 ((m : Int) + 1) ∧ m ≤ 8 ∧ BInv w8 wr cb mb bb x (polK y) m t bk) (fun _ _ vn _ => (10 - intOf vn).toNat)
  case atStart => exact ⟨0, 0, y.back, rfl, rfl, rfl, by omega, HINV.out⟩
  case round =>
    obtain ⟨m, t, bk, rfl, rfl, rfl, hm8, hinv⟩ := hrel
    obtain ⟨⟨S, B, hat, hbs, hbok⟩, hfr, ⟨t0, t1⟩, hbk⟩ := hinv
    have m5 := (hfr.block _ (by omega) (by unfold CFoot; omega)).trans M5''.out
    have m6 := (hfr.block _ (by omega) (by unfold CFoot; omega)).trans M6''.out
    have e1 := block_cell m6 1 _ rfl
    have hz := hfr.size
    have HBS := Lib.hid hbs
    have HBOK' := Lib.hid hbok
    have HFR := Lib.hid hfr
    have HBKE := Lib.hid hbk
    have hbkb : 0 ≤ bk ∧ bk ≤ 6000 := by rw [hbk]; exact pow_bd (by show 0 ≤ y.back ∧ y.back < 20; omega) hm8
    obtain ⟨bk0, bk1⟩ := hbkb
    have M5c := Lib.hid m5
    have M6c := Lib.hid m6
    clear m5 m6 hbk
    by_cases hlt : (m : Int) + 1 ≤ y.tries
    · have b1 : decide ((m : Int) + 1 ≤ y.tries) = true := decide_eq_true hlt
      have HOV := Lib.hid (over_any hat.call)
      rw [hbs.over] at HOV
      have HAT := Lib.hid hat
      clear hat hbs hbok hfr
      go_wp2_with fail
      refine HOV.out.mono ?_
      rintro e wa ⟨rfl, hba⟩
      have HATa := Lib.hid (HAT.out.below hba)
      have HFRa := Lib.hid (HFR.out.trans (Fr.ofBelow (F := CFoot cb mb bb) hba) (fun _ h => .inl h))
      have ma5 := (hba.block _ (by omega)).trans M5c.out
      have ma6 := (hba.block _ (by omega)).trans M6c.out
      have hza := hba.size
      have M5a := Lib.hid ma5
      have M6a := Lib.hid ma6
      obtain ⟨wv, hwv⟩ : ∃ wv, wv = pickI d m 60 := ⟨_, rfl⟩
      have hwb := pick_bd d m (m := 60) (by omega)
      rw [← hwv] at hwb
      obtain ⟨wv0, wv1⟩ := hwb
      have HWV := Lib.hid hwv
      have harg := H2.out.keep (HBW.out wa HFRa.out)
      obtain ⟨hlen, hmax, hbnd, hcell⟩ := harg
      clear hwv hba ma5 ma6
      go_upto_if 63 with (fail)
      go_cut [16] from 63 to 69 (fun v wx => IsNow wv wa v wx)
      case first =>
        by_cases hmn : (m : Int) + 1 ≤ (n2 : Int)
        · have hml : m < d.length := by omega
          have HP : Hid (wv = around (d.getD m 0) 60) := HWV.out.trans (by unfold pickI; exact if_pos hml)
          have hxb := hbnd (d.getD m 0) (by rw [List.getD_eq_getElem?_getD, List.getElem?_eq_getElem hml, Option.getD_some]; exact List.getElem_mem _)
          obtain ⟨bq, off, rfl, hc⟩ := hcell.resolve_left (by omega)
          have c0 := hc m hml
          rw [show d[m]'hml = d.getD m 0 by rw [List.getD_eq_getElem?_getD, List.getElem?_eq_getElem hml, Option.getD_some]] at c0
          obtain ⟨xx, hxx⟩ : ∃ xx, xx = d.getD m 0 := ⟨_, rfl⟩
          rw [← hxx] at c0 hxb HP
          have i1 : (0 : Int) ≤ (m : Int) := by omega
          have i2 : (m : Int) < (n2 : Int) := by omega
          have HA := Lib.hid (around_any xx 60 wa hxb.1 hxb.2 (by omega) (by omega))
          clear hc hbnd hlen hxx hml
          go_wp2_with fail
          refine HA.out.mono ?_
          rintro e w' ⟨rfl, rfl⟩
          go_wp2_with fail
          go_meet
          exact ⟨by rw [HP.out], rfl⟩
        · have HP : Hid (wv = 0) := HWV.out.trans (by unfold pickI; exact if_neg (by omega))
          clear hcell hbnd hlen
          go_wp2_with fail
          go_meet
          exact ⟨by rw [HP.out], rfl⟩
      case rest =>
        obtain ⟨rfl, hwc⟩ := hcut
        subst hwc
        have HANS := Lib.hid (answer_any HATa.out HBS.out.ok (t + wv / 4) ((m : Int) + 1) 35 (t + wv / 4 + wv) (by omega) (by omega))
        clear hcell hbnd hlen
        go_wp2_with fail
        refine HANS.out.mono ?_
        rintro e wb ⟨v1, rfl, ⟨h1, ⟨s1, r1, q1⟩, f1⟩⟩
        have hzb := f1.size
        have mb5 := (f1.block _ (by omega) (by unfold CFoot; omega)).trans M5a.out
        have mb6 := (f1.block _ (by omega) (by unfold CFoot; omega)).trans M6a.out
        have HFRb := Lib.hid (HFRa.out.trans f1 (fun _ h => .inl h))
        have HATb := Lib.hid h1
        have HOVb := Lib.hid (over_any h1.call)
        rcases back_ans HBS.out (by show (0 : Int) ≤ 0; omega) (t + wv / 4) (t + wv / 4 + wv) with hov | ⟨hS1, hdl, hmo, hL1⟩
        · rw [hov] at HOVb
          clear h1 r1 q1 f1 hov mb5 mb6
          go_wp2_with fail
          refine HOVb.out.mono ?_
          rintro e wd ⟨rfl, hbd⟩
          have HFRd := Lib.hid (HFRb.out.trans (Fr.ofBelow (F := CFoot cb mb bb) hbd) (fun _ h => .inl h))
          clear hbd
          go_wp2_with fail
          refine (lives_any _).mono ?_
          rintro e we ⟨rfl, hbe⟩
          have HFIN := Lib.hid (HBW.out _ (HFRd.out.trans (Fr.ofBelow (F := CFoot cb mb bb) hbe) (fun _ h => .inl h)))
          clear hbe
          go_wp2_with fail
          go_ret
          exact ⟨rfl, HFIN.out⟩
        · obtain ⟨D, hD⟩ : ∃ D, D = dueT (polK y) ((m : Int) + 1) (t + wv / 4) (t + wv / 4 + wv) := ⟨_, rfl⟩
          rw [← hD] at hS1 hdl hL1
          have HDE : Hid (D = max (t + wv / 4 + bk) (t + wv / 4 + wv)) := by
            unfold Hid; rw [hD]; unfold dueT
            rw [HBKE.out, show ((m : Int) + 1).toNat - 1 = m by omega, Int.max_comm]
          have hD0 : t + wv / 4 ≤ D := by have := HDE.out; omega
          have hD1 : D < x.dl := hdl
          rw [hS1] at h1 HOVb
          rw [hL1] at r1
          have hov : (S.wait1 D).over = false := HBS.out.over
          rw [hov] at HOVb
          obtain ⟨g1, o1, c1, rfl, rfl, k1⟩ := row_rec r1 (by show 0 < 1; omega)
          have HG1 : Hid (g1 < wb.heap.size ∧ ¬ CFoot cb mb bb g1) := ⟨r1.lt g1 rfl, (q1 g1 rfl).2⟩
          have HK1 := Lib.hid k1
          have HH1 := Lib.hid h1
          have HX5 := Lib.hid (block_cell mb5 5 _ rfl)
          have HMO := Lib.hid hmo
          have MB5 := Lib.hid mb5
          have MB6 := Lib.hid mb6
          clear hD hS1 hdl hL1 hov h1 r1 q1 f1 k1 mb5 mb6 HATb hmo
          rw [show ([(⟨2, D, cx0, 0⟩ : Ac)]).length = 1 from rfl]
          go_wp2_with fail
          rw [show t + wv / 4 + max bk wv = D from by have := HDE.out; omega]
          refine HOVb.out.mono ?_
          rintro e wd ⟨rfl, hbd⟩
          have hzd := hbd.size
          have HFRd := Lib.hid (HFRb.out.trans (Fr.ofBelow (F := CFoot cb mb bb) hbd) (fun _ h => .inl h))
          have HATd := Lib.hid (HH1.out.below hbd)
          have j0 := HK1.out wd (hbd.block _ HG1.out.1) 0 _ rfl
          have j1 := HK1.out wd (hbd.block _ HG1.out.1) 1 _ rfl
          rw [Nat.add_zero] at j0
          have x5 := bkeep hbd HX5.out
          have MD5 := Lib.hid ((hbd.block _ (by omega)).trans MB5.out)
          have MD6 := Lib.hid ((hbd.block _ (by omega)).trans MB6.out)
          have u1 : decide (x.dl ≤ D) = false := decide_eq_false (by omega)
          have hD2 : D ≤ 400 := by have := HXB.out; omega
          have HWOK := Lib.hid (wait1_ok HBS.out.ok (at_ := D) ⟨by omega, by omega⟩)
          clear hbd HOVb
          go_upto_if 120 with (fail)
          clear j0 j1 x5
          go_cut [22] from 120 to 134 (fun _ wx => EarlyS wd cb mb bb (S.wait1 D) B wx)
          case first =>
            by_cases hgt : t + wv / 4 < D
            · have hear := back_early HBS.out (now := D - 1) (at_ := D) (by omega) hD1 B
              have hwk := wake_any HATd.out HWOK.out HBOK'.out (D - 1) (by omega)
              rw [hear.1, hear.2.1, hear.2.2] at hwk
              have HWK := Lib.hid hwk
              clear hear hwk
              go_wp2_with fail
              refine HWK.out.mono ?_
              rintro e we ⟨v2, rfl, ⟨h2, ⟨s2, r2, q2⟩, f2⟩⟩
              obtain ⟨g2, o2, c2, rfl, rfl, k2⟩ := row_rec r2 (by show 0 < 1; omega)
              have j0 := k2 we rfl 0 _ rfl
              rw [Nat.add_zero] at j0
              rw [show ([(⟨2, D, cx0, 0⟩ : Ac)]).length = 1 from rfl]
              have HEND : Hid (EarlyS wd cb mb bb (S.wait1 D) B we) := ⟨h2, f2⟩
              clear k2 r2 q2 h2 f2
              go_wp2_with fail
              go_meet
              exact HEND.out
            · have HEND : Hid (EarlyS wd cb mb bb (S.wait1 D) B wd) := ⟨HATd.out, Fr.refl _ _⟩
              go_wp2_with fail
              go_meet
              exact HEND.out
          case rest =>
            obtain ⟨hat2, hfr2⟩ := hcut
            have hz2' := hfr2.size
            have hnext := back_next HBS.out HMO.out (at_ := D) ⟨by omega, by omega⟩ hD1 B
            have HNEXT := Lib.hid hnext
            have HWN := Lib.hid (wake_any hat2 HWOK.out HBOK'.out D (by omega))
            have HFRc := Lib.hid (HFRd.out.trans hfr2 (fun _ h => .inl h))
            have HBOK2 : Hid ((actB (S.wait1 D) B ((S.wait1 D).wakeB D B)).Ok) := HBOK'.out.act _ (HBOK'.out.wake _ _)
            clear hat2 hfr2 hnext
            go_wp2_with fail
            refine HWN.out.mono ?_
            rintro e wf ⟨v3, rfl, ⟨h3, ⟨s3, r3, q3⟩, f3⟩⟩
            have HFRf := Lib.hid (HFRc.out.trans f3 (fun _ h => .inl h))
            have hzf := f3.size
            have htr := tries_any h3.call
            obtain ⟨L3, hL3⟩ : ∃ L3, L3 = actL (S.wait1 D) ((S.wait1 D).wakeS D B) ((S.wait1 D).wakeL D B) := ⟨_, rfl⟩
            rw [← hL3] at r3
            have H3 := Lib.hid h3
            cases hbm : B.may with
            | true =>
              obtain ⟨hbs2, a, F, hLa, haw⟩ := HNEXT.out.1 hbm
              rw [← hL3] at hLa
              rw [hbs2.made] at htr
              have HTR := Lib.hid htr
              obtain ⟨q, hq⟩ : ∃ q, q = F.length := ⟨_, rfl⟩
              have hll : L3.length = q + 1 := by rw [hLa, hq]; rfl
              obtain ⟨g3, o3, c3, rfl, rfl, k3⟩ := row_rec r3 (by omega)
              have hq2 : q + 1 ≤ 1000 := by
                have := wakeL_len HWOK.out (now := D) ⟨by omega, by omega⟩ B
                have := actL_len (S := S.wait1 D) (HWOK.out.wake (now := D) ⟨by omega, by omega⟩ B) this
                rw [← hL3] at this; omega
              have hcl : (acsCells L3)[0]? = some (.int .i64 1) := by
                rw [hLa, ← haw]; rfl
              have K3 := Lib.hid k3
              have HCL := Lib.hid hcl
              have HNEW : Hid (BInv w8 wf cb mb bb x (polK y) (m + 1) D (2 * bk)) := by
                refine ⟨⟨_, _, H3.out, ?_, HBOK2.out⟩, HFRf.out, ⟨by omega, hD2⟩, ?_⟩
                · have := hbs2
                  rw [show (((m + 1 : Nat) : Int) + 1) = (m : Int) + 1 + 1 by omega]; exact this
                · rw [HBKE.out, Int.pow_succ]; show 2 * (y.back * 2 ^ m) = y.back * (2 ^ m * 2); rw [Int.mul_comm (2 ^ m) 2, Int.mul_left_comm]
              have u2 : (((m : Int) + 1 + 1) == ((m : Int) + 1)) = false := beq_eq_false_iff_ne.2 (by omega)
              have u3 : (((q : Int) + 1) == 0) = false := beq_eq_false_iff_ne.2 (by omega)
              have hi2 : (0 : Int) < (q : Int) + 1 := by omega
              rw [hll]
              clear hbs2 hLa haw hL3 h3 r3 q3 f3 k3 hcl htr hq hll HNEXT hbm
              have j0 := K3.out wf rfl 0 _ HCL.out
              rw [Nat.add_zero] at j0
              go_wp2_with fail
              refine HTR.out.mono ?_
              rintro e wg ⟨rfl, hwg⟩
              subst hwg
              go_wp2_with fail
              refine HTR.out.mono ?_
              rintro e wh ⟨rfl, hwh⟩
              subst hwh
              go_wp2_with fail
              go_roundw
              case rel => exact ⟨m + 1, D, 2 * bk, rfl, rfl, by go_num, by omega, HNEW.out⟩
              case measure => simp [intOf]; omega
            | false =>
              obtain ⟨ho3, he3, hm3⟩ := HNEXT.out.2 hbm
              rw [hm3] at htr
              have hov3 := over_any h3.call
              rw [ho3, he3] at hov3
              have HTR := Lib.hid htr
              have HOV3 := Lib.hid hov3
              have u2 : (((m : Int) + 1) == ((m : Int) + 1)) = true := beq_self_eq_true _
              obtain ⟨l3, c3, rfl⟩ := r3.form
              clear h3 r3 q3 f3 htr hov3 HNEXT hbm ho3 he3 hm3 hL3
              go_wp2_with fail
              refine HTR.out.mono ?_
              rintro e wg ⟨rfl, hwg⟩
              subst hwg
              go_wp2_with fail
              refine HOV3.out.mono ?_
              rintro e wh ⟨rfl, hbh⟩
              have HFRh := Lib.hid (HFRf.out.trans (Fr.ofBelow (F := CFoot cb mb bb) hbh) (fun _ h => .inl h))
              clear hbh
              go_wp2_with fail
              refine (lives_any _).mono ?_
              rintro e wi ⟨rfl, hbi⟩
              have HFIN := Lib.hid (HBW.out _ (HFRh.out.trans (Fr.ofBelow (F := CFoot cb mb bb) hbi) (fun _ h => .inl h)))
              clear hbi
              go_wp2_with fail
              go_ret
              exact ⟨rfl, HFIN.out⟩
    · have b1 : decide ((m : Int) + 1 ≤ y.tries) = false := decide_eq_false hlt
      clear hat hbs hbok hfr
      go_wp2_with fail
      refine (lives_any _).mono ?_
      rintro e wi ⟨rfl, hbi⟩
      have HFIN := Lib.hid (HBW.out _ (HFR.out.trans (Fr.ofBelow (F := CFoot cb mb bb) hbi) (fun _ h => .inl h)))
      clear hbi
      go_wp2_with fail
      go_ret
      exact ⟨rfl, HFIN.out⟩

end Go.Proofs.Ytipmajcefcfnlaa
