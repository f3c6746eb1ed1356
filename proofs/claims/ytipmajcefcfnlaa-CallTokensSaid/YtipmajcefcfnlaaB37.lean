/- The walk of CallEnds. -/
import Derived.Test.YtipmajcefcfnlaaB36
import Derived.Laws.StructEq
namespace Go.Proofs.Ytipmajcefcfnlaa
open Go.RowKit
attribute [local go_sem ↓] Go.wp_at_zero Go.wp_at_succ

theorem neq_same (c : Cx) (W : World) : (binOp .neq 25 (.agg #[.int .i64 c.req, .string c.call, .int .i64 c.try_, .bool c.idem, .bool c.shadow, .int .i64 c.dl, .int .i64 c.purse, .int .i64 c.ver, .int .i64 c.prio]) (.agg #[.int .i64 c.req, .string c.call, .int .i64 c.try_, .bool c.idem, .bool c.shadow, .int .i64 c.dl, .int .i64 c.purse, .int .i64 c.ver, .int .i64 c.prio])).run Try.prog W = .ok (.bool false) W := by
  go_simp

/-- What the loop knows. -/
structure EInv (w4 wr : World) (cb mb bb : Nat) (x : Cx) (y : Pol) (late : Int) (i : Nat) (now : Int) (v : Value) : Prop where
  it : ∃ S B L, CallAt wr cb mb bb S B ∧ S.Ok ∧ B.Ok ∧ S.c = x ∧ S.p = y ∧ EndL S now L ∧ L.length ≤ 1000 ∧ (∃ sb, RowAt wr 40 12 v L.length (acsCells L) sb) ∧ (S.over = true → S.open_ = []) ∧
    ((S.over = true ∧ i ≤ 901) ∨ (S.over = false ∧ Tm S now ∧ ∃ τ : Int, 0 ≤ τ ∧ τ ≤ 1 ∧ (τ = 0 → ¬ Tight S now) ∧ (i : Int) + 2 * (x.dl - now) + τ + 2 * max 0 (24 - i) ≤ 900))
  now : 0 ≤ now ∧ now ≤ late ∧ late ≤ 400
  fr : Fr (CFoot cb mb bb) w4 wr

theorem act_nil {S S1 : CS} (h : S.over = false) : (actS S S1).over = true → (actS S S1).open_ = [] := by
  unfold actS
  rw [if_neg (by rw [h]; decide)]
  unfold CS.fin
  split
  · exact fun _ => rfl
  · rename_i h1; exact fun e => absurd e h1
theorem act_over_on {S S1 : CS} {B B1 : Bk} {l : List Ac} (h : S.over = true) : actS S S1 = S ∧ actB S B B1 = B ∧ actL S S1 l = [] := by
  unfold actS actB actL
  rw [h]; exact ⟨rfl, rfl, rfl⟩

set_option maxRecDepth 8000 in
set_option maxHeartbeats 4000000 in
theorem ends_walk {w : World} {A A' A2 : Option Addr} {n n' n2 : Nat} {l p d : List Int} (h : ArgInts w A n l) (h' : ArgInts w A' n' p) (h2 : ArgInts w A2 n2 d) (cap cap' cap2 : Nat) (at_ : Int) (hat0 : -9223372036854775808 ≤ at_ ∧ at_ ≤ 9223372036854775807) :
    Calls Try.prog 5 #[.slice A n cap, .slice A' n' cap', .slice A2 n2 cap2, .int .i64 at_] w fun e w' => e = .returned (.bool true) ∧ Below w.heap.size w w' := by
  have HBG := Lib.hid (begun_any h h' cap cap')
  have H2 := Lib.hid h2
  clear h h' h2
  go_enter Try.func5, Try.ntmps5
  go_wp2_with fail
  refine HBG.out.mono ?_
  rintro e w1 ⟨s, cb, mb, bb, rfl, hat, ⟨p1, p2, p3⟩, hb1⟩
  have hf := begun_facts l p s
  obtain ⟨x, hx⟩ : ∃ x, x = ctxOf l s := ⟨_, rfl⟩
  obtain ⟨y, hy⟩ : ∃ y, y = polOf p := ⟨_, rfl⟩
  have hxb := ctxOf_bd l s
  have hyb := polOf_bd p
  rw [← hx] at hxb hat hf ⊢
  rw [← hy] at hyb hat hf ⊢
  dsimp only [cxVal, polVal]
  have hlt := hat.call.lt
  have hlb := (Array.getElem?_eq_some_iff.1 hat.bk).1
  have HAT := Lib.hid hat
  have HB1 := Lib.hid hb1
  have HF := Lib.hid hf
  have HXB := Lib.hid hxb
  have HYB := Lib.hid hyb
  clear hx hy hxb hyb hat hb1 hf HBG
  go_wp2_with fail
  obtain ⟨W2, hW2⟩ : ∃ W2, W2 = (w1.alloc (.cells #[.int .i64 x.req, .string x.call, .int .i64 x.try_, .bool x.idem, .bool x.shadow, .int .i64 x.dl, .int .i64 x.purse, .int .i64 x.ver, .int .i64 x.prio] 25)).alloc (.cells #[.int .i64 y.tmo, .int .i64 y.tries, .int .i64 y.back, .int .i64 y.hedge, .int .i64 y.per, .int .i64 y.of, .int .i64 y.burst] 29) := ⟨_, rfl⟩
  rw [← hW2]
  have hb2 : Below w1.heap.size w1 W2 := by rw [hW2]; exact ((Below.refl _ _).alloc (Nat.le_refl _) _).alloc (by simp) _
  have k8 : W2.heap[w1.heap.size]? = some (.cells #[.int .i64 x.req, .string x.call, .int .i64 x.try_, .bool x.idem, .bool x.shadow, .int .i64 x.dl, .int .i64 x.purse, .int .i64 x.ver, .int .i64 x.prio] 25 (0, 0)) := by rw [hW2]; exact alloc_keep _ (heap_alloc_new _ _)
  have k9 : W2.heap[w1.heap.size + 1]? = some (.cells #[.int .i64 y.tmo, .int .i64 y.tries, .int .i64 y.back, .int .i64 y.hedge, .int .i64 y.per, .int .i64 y.of, .int .i64 y.burst] 29 (0, 0)) := by rw [hW2]; exact alloc_new' _ _ (by simp)
  have hz2 : w1.heap.size + 2 ≤ W2.heap.size := by rw [hW2]; simp
  obtain ⟨N, hN⟩ : ∃ N, N = w1.heap.size := ⟨_, rfl⟩
  have hN1 : cb < N ∧ mb < N ∧ bb < N := by omega
  have hN2 : N + 2 ≤ W2.heap.size := by omega
  have hN3 : w.heap.size ≤ N := by have := HB1.out.size; omega
  rw [← hN] at k8 k9 ⊢
  have hat2 := HAT.out.below hb2
  have HB2 := Lib.hid (btrans HB1.out hb2)
  have c5 := block_cell k8 5 (.int .i64 x.dl) rfl
  have HK8 := Lib.hid k8
  have HAR := Lib.hid (around_any at_ 300 W2 hat0.1 hat0.2 (by omega) (by omega))
  obtain ⟨nw0, nw1⟩ := around_bd at_ (m := 300) (by omega)
  obtain ⟨nw, hnw⟩ : ∃ nw, nw = around at_ 300 := ⟨_, rfl⟩
  rw [← hnw] at nw0 nw1 HAR
  clear k8 k9 hnw hW2 hz2 hN hb2 hlt hlb
  refine HAR.out.mono ?_
  rintro e w' ⟨rfl, rfl⟩
  obtain ⟨late, hlate⟩ : ∃ late, late = max nw x.dl := ⟨_, rfl⟩
  have HLATE := Lib.hid hlate
  have hl1 : nw ≤ late := by omega
  have hl2 : x.dl ≤ late := by omega
  have hl3 : late ≤ 400 := by have := HXB.out; omega
  clear hlate
  have HST := Lib.hid (steps_any (H2.out.keep HB2.out) cap2)
  have HAT2 := Lib.hid hat2
  clear hat2
  go_wp2_with fail
  rw [← HLATE.out]
  refine HST.out.mono ?_
  rintro e w3 ⟨v1, sS, rfl, rS, qS, hb3⟩
  have hz3 := hb3.size
  have hat3 := HAT2.out.below hb3
  have K8 := Lib.hid ((hb3.block N (by omega)).trans HK8.out)
  have HB3 := Lib.hid (btrans HB2.out hb3)
  have HC0 := Lib.hid (begin_any hat3 HF.out.1 HF.out.2.2.1 nw (by omega))
  obtain ⟨M, hMM⟩ : ∃ M, M = stepsN d := ⟨_, rfl⟩
  have hM : M ≤ 24 := by rw [hMM]; exact stepsN_le d
  have hlen : (stepsOf d).length = M := by rw [hMM]; exact stepsTo_length _ _
  rw [← hMM] at rS
  obtain ⟨lS, cS, rfl⟩ := rS.form
  have HRS := Lib.hid rS
  have HQS := Lib.hid qS
  have HLEN := Lib.hid hlen
  clear hb3 hat3 hMM rS qS hlen HST HAR c5
  go_wp2_with fail
  refine HC0.out.mono ?_
  rintro e w4 ⟨v0, rfl, ⟨h4, ⟨s0, r4, q4⟩, f4⟩⟩
  have hz4 := f4.size
  have hcl := h4.call.lt
  have HROW : Hid (∀ i t, (stepsOf d)[i]? = some t → ∃ g off, lS = some ⟨g, off, none⟩ ∧ ∀ W, Fr (CFoot cb mb bb) w4 W → ∀ j u, (stCells t)[j]? = some u → W.cell? ⟨g, off + (i * 5 + j), none⟩ = some u) := by
    intro i t ht
    have hi := (List.getElem?_eq_some_iff.1 ht).1
    obtain ⟨g, off, cp, hv, hs, hc⟩ := row_rec HRS.out (by have := HLEN.out; omega)
    injection hv with e1 _ e3
    have hg := HQS.out g hs
    have hgl := HRS.out.lt g hs
    refine ⟨g, off, e1, fun W hW j u hu => hc W ((hW.block g (by omega) (by unfold CFoot; omega)).trans (f4.block g hgl (by unfold CFoot; omega))) (i * 5 + j) u ?_⟩
    unfold stsCells
    rw [flat_get stCells 5 (fun _ => rfl) _ i t ht j (List.getElem?_eq_some_iff.1 hu).1]
    exact hu
  have K84 := Lib.hid ((f4.block N (by omega) (by unfold CFoot; omega)).trans K8.out)
  have hy1 : 1 ≤ y.tmo := HYB.out.1.1
  have HINV : Hid (EInv w4 w4 cb mb bb x y late 0 nw v0) := by
    have hbm := begin_mid (newS x y) nw
    have hbs := begin_spent HF.out.1 (now := nw) (by have := HF.out.2.2.2.2; show (0 : Int) + 1 ≤ y.tries; omega)
    have hok1 := HF.out.1.begin HF.out.2.2.1 (now := nw) ⟨by omega, by omega⟩
    have ht := begin_tm (x := x) (y := y) (now := nw) hy1
    refine ⟨⟨_, _, _, h4, HF.out.1.act hok1, HF.out.2.1, hbs.act.c, hbs.act.p, act_end rfl hbm, ?_, ⟨s0, r4⟩, act_nil rfl, ?_⟩, ⟨nw0, hl1, hl3⟩, Fr.refl _ _⟩
    · exact Nat.le_trans (actL_len (n := 1) hok1 (by unfold CS.beginL; split <;> simp)) (by omega)
    · rcases ht with h | ⟨h, h'⟩
      · exact .inl ⟨h, by omega⟩
      · have h1 := HXB.out
        exact .inr ⟨h, h', 1, by omega, by omega, fun e => by omega, by show ((0 : Nat) : Int) + 2 * (x.dl - nw) + 1 + 2 * max 0 (24 - ((0 : Nat) : Int)) ≤ 900; omega⟩
  have HBIG : Hid (∀ W, Fr (CFoot cb mb bb) w4 W → Below w.heap.size w W) := fun W hW =>
    ((Fr.ofBelow (F := CFoot cb mb bb) HB3.out).trans (f4.trans hW (fun _ h => .inl h)) (fun _ h => .inl h)).toBelow fun k hk hc => by unfold CFoot at hc; omega
  clear h4 r4 q4 f4 HC0
  go_wp2_with fail
  go_loopw [12, 15, 16, 17] (fun vn vt ve vi wr => ∃ (i : Nat) (now : Int), vn = .int .i64 now ∧ ve = .int .i64 0 ∧ vi = .int .i64 i ∧ EInv w4 wr cb mb bb x y late i now vt) (fun _ _ _ vi _ => (3000 - intOf vi).toNat)
  case atStart => exact ⟨0, nw, rfl, rfl, rfl, HINV.out⟩
  case round =>
    obtain ⟨i, now, rfl, rfl, rfl, hinv⟩ := hrel
    obtain ⟨wo, rfl⟩ : ∃ wo : World, wo = wr := ⟨_, rfl⟩
    obtain ⟨⟨S, B, L, hat, hok, hbok, hSc, hSp, hend, hll, ⟨sb, hrow⟩, hnil, hpot⟩, ⟨n0, n1, n2⟩, hfr⟩ := hinv
    obtain ⟨A0, a, hL, hmid, hlast⟩ := hend.how
    have hi : i ≤ 901 := by
      rcases hpot with ⟨_, h⟩ | ⟨_, h1, τ, h2, h3, _, h4⟩
      · exact h
      · have := h1.dl; rw [hSc] at this; omega
    obtain ⟨la, lc, rfl⟩ := hrow.form
    obtain ⟨q, hq⟩ : ∃ q, q = A0.length := ⟨_, rfl⟩
    have hm : L.length = q + 1 := by rw [hL, List.length_append, hq]; rfl
    rw [hm]
    have b0 : decide ((i : Int) < 2000) = true := decide_eq_true (by omega)
    have HCELL : Hid (∀ k b, L[k]? = some b → ∃ g off, la = some ⟨g, off, none⟩ ∧ ∀ W, Below wo.heap.size wo W → ∀ j u, (acCells b)[j]? = some u → W.cell? ⟨g, off + (k * 12 + j), none⟩ = some u) := by
      intro k b hk
      obtain ⟨g, off, cp, hv, hs, hc⟩ := row_rec hrow (by have := (List.getElem?_eq_some_iff.1 hk).1; omega)
      injection hv with e1 e2 e3
      refine ⟨g, off, e1, fun W hW j u hu => hc W (hW.block g (hrow.lt g hs)) _ u ?_⟩
      unfold acsCells
      rw [flat_get acCells 12 (fun _ => rfl) _ k b hk j (List.getElem?_eq_some_iff.1 hu).1]
      exact hu
    have HMID : Hid (∀ k, k < q → ∃ b, L[k]? = some b ∧ ((b.what = 1 ∧ now < x.dl) ∨ b.what = 4)) := by
      intro k hk
      have hkl : k < A0.length := by omega
      refine ⟨A0[k], by rw [hL, List.getElem?_append_left hkl, List.getElem?_eq_getElem hkl], ?_⟩
      have := hmid A0[k] (List.getElem_mem _)
      rwa [hSc] at this
    have HLAST : Hid (L[q]? = some a) := by
      show L[q]? = some a
      rw [hL, hq, List.getElem?_append_right (Nat.le_refl _), Nat.sub_self]; rfl
    have hlz := hm ▸ hll
    have HAT := Lib.hid hat
    have HOK := Lib.hid hok
    have HBOK := Lib.hid hbok
    have HSC := Lib.hid hSc
    have HSP := Lib.hid hSp
    have HFR := Lib.hid hfr
    have kx := (hfr.block N (by omega) (by unfold CFoot; omega)).trans K84.out
    have KX := Lib.hid kx
    have hzr := hfr.size
    have z5 := block_cell kx 5 (.int .i64 x.dl) rfl
    clear hat hok hbok hSc hSp hend hL hmid hrow hfr hm hq hll kx
    rcases hpot with ⟨hov, _⟩ | ⟨hov, htm, τ, τ0, τ1, τ2, τ3⟩
    · rcases hlast with ⟨_, hw3, hac⟩ | ⟨h, _⟩
      · rw [HSC.out] at hac
        have HOV := Lib.hid hov
        have HNIL := Lib.hid (hnil hov)
        have HW3 := Lib.hid hw3
        have HAC := Lib.hid hac
        clear hov hnil hw3 hac
        go_wp2_with fail
        go_loopw [16, 18, 19] (fun ve vn vk wi => ∃ (k : Nat) (e : Int), vk = .int .i64 k ∧ ve = .int .i64 e ∧ vn = .int .i64 (-1) ∧ k ≤ q + 1 ∧ (0 ≤ e ∧ e ≤ 1) ∧ Hid (e = if k ≤ q then 0 else 1) ∧ Below wo.heap.size wo wi) (fun _ _ vk _ => (q + 1 - intOf vk).toNat)
        case atStart => exact ⟨0, 0, rfl, rfl, rfl, Nat.zero_le _, by omega, by rw [if_pos (Nat.zero_le _)]; rfl, Below.refl _ _⟩
        case round =>
          obtain ⟨k, e, rfl, rfl, rfl, hk, ⟨e0, e1⟩, he, hbw⟩ := hrel
          have HBW := Lib.hid hbw
          by_cases hkq : k < q + 1
          · have i1 : (0 : Int) ≤ (k : Int) := by omega
            have i2 : (k : Int) < (q : Int) + 1 := by omega
            by_cases hk1 : k < q
            · obtain ⟨b, hb, hcase⟩ := HMID.out k hk1
              obtain ⟨g, off, rfl, hcell⟩ := HCELL.out k b hb
              have c0 := hcell _ hbw 0 _ rfl
              rw [Nat.add_zero] at c0
              have he' : Hid (e = if k + 1 ≤ q then 0 else 1) := by
                have := he.out; rw [if_pos (by omega)] at this; unfold Hid; rw [if_pos (by omega)]; exact this
              have z5' := bkeep hbw z5
              clear hb hcell hbw
              rcases hcase with ⟨hw, hlt⟩ | hw
              · have b3 : (b.what == 3) = false := beq_eq_false_iff_ne.2 (by omega)
                have b1 : (b.what == 1) = true := beq_iff_eq.2 hw
                have b5 : decide (x.dl ≤ now) = false := decide_eq_false (by omega)
                clear hw
                go_wp2_with fail
                go_roundw
                case rel => exact ⟨k + 1, e, by go_num, rfl, rfl, by omega, ⟨e0, e1⟩, he', HBW.out⟩
                case measure => simp [intOf]; omega
              · have b3 : (b.what == 3) = false := beq_eq_false_iff_ne.2 (by omega)
                have b1 : (b.what == 1) = false := beq_eq_false_iff_ne.2 (by omega)
                have b2 : (b.what == 2) = false := beq_eq_false_iff_ne.2 (by omega)
                clear hw
                go_wp2_with fail
                go_roundw
                case rel => exact ⟨k + 1, e, by go_num, rfl, rfl, by omega, ⟨e0, e1⟩, he', HBW.out⟩
                case measure => simp [intOf]; omega
            · obtain rfl : k = q := by omega
              obtain ⟨g, off, rfl, hcell⟩ := HCELL.out k a HLAST.out
              have c0 := hcell _ hbw 0 _ rfl
              rw [Nat.add_zero] at c0
              have c2 := hcell _ hbw 2 (.int .i64 x.req) (by rw [← HAC.out]; rfl)
              have c3 := hcell _ hbw 3 (.string x.call) (by rw [← HAC.out]; rfl)
              have c4 := hcell _ hbw 4 (.int .i64 x.try_) (by rw [← HAC.out]; rfl)
              have c5 := hcell _ hbw 5 (.bool x.idem) (by rw [← HAC.out]; rfl)
              have c6 := hcell _ hbw 6 (.bool x.shadow) (by rw [← HAC.out]; rfl)
              have c7 := hcell _ hbw 7 (.int .i64 x.dl) (by rw [← HAC.out]; rfl)
              have c8 := hcell _ hbw 8 (.int .i64 x.purse) (by rw [← HAC.out]; rfl)
              have c9 := hcell _ hbw 9 (.int .i64 x.ver) (by rw [← HAC.out]; rfl)
              have c10 := hcell _ hbw 10 (.int .i64 x.prio) (by rw [← HAC.out]; rfl)
              rw [← Nat.add_assoc] at c2 c3 c4 c5 c6 c7 c8 c9 c10
              have b3 : (a.what == 3) = true := beq_iff_eq.2 HW3.out
              have b5 : decide (late < now) = false := decide_eq_false (by omega)
              have hee : e = 0 := by have := he.out; rw [if_pos (Nat.le_refl _)] at this; exact this
              subst hee
              have he' : Hid ((1 : Int) = if k + 1 ≤ k then 0 else 1) := by unfold Hid; rw [if_neg (by omega)]
              have kx := (hbw.block N (by omega)).trans KX.out
              have x0 := block_cell kx 0 _ rfl
              have x1 := block_cell kx 1 _ rfl
              have x2 := block_cell kx 2 _ rfl
              have x3 := block_cell kx 3 _ rfl
              have x4 := block_cell kx 4 _ rfl
              have x5 := block_cell kx 5 _ rfl
              have x6 := block_cell kx 6 _ rfl
              have x7 := block_cell kx 7 _ rfl
              have x8 := block_cell kx 8 _ rfl
              clear kx hcell hbw
              go_wp2_with fail
              go_quiet (fail)
              go_wp2_with fail
              go_roundw
              case rel => exact ⟨k + 1, 1, by go_num, rfl, rfl, Nat.le_refl _, by omega, he', below_drewN HBW.out⟩
              case measure => simp [intOf]
          · obtain rfl : k = q + 1 := by omega
            have hee : e = 1 := by have := he.out; rw [if_neg (by omega)] at this; exact this
            subst hee
            have hatr := HAT.out.below hbw
            have HATR := Lib.hid hatr
            have HOVC := Lib.hid (over_any hatr.call)
            rw [HOV.out] at HOVC
            clear hatr hbw
            go_wp2_with fail
            refine HOVC.out.mono ?_
            rintro e w5 ⟨rfl, hb5⟩
            have hat5 := HATR.out.below hb5
            have HAT5 := Lib.hid hat5
            have HOWN := Lib.hid (own_any hat5.call HOK.out)
            have HB5 := Lib.hid (btrans HBW.out hb5)
            clear hat5 hb5
            go_wp2_with fail
            refine HOWN.out.mono ?_
            rintro e w6 ⟨v6, sb6, rfl, hi6, hfr6, hb6⟩
            obtain ⟨l6, c6, rfl⟩ := hi6.form
            rw [HNIL.out]
            have hat6 := HAT5.out.below hb6
            have HB6 := Lib.hid (btrans HB5.out hb6)
            have HWK := Lib.hid (wake_any hat6 HOK.out HBOK.out (now + 1) (by omega))
            obtain ⟨z1, z2, z3⟩ := act_over_on (S := S) (S1 := S.wakeS (now + 1) B) (B := B) (B1 := S.wakeB (now + 1) B) (l := S.wakeL (now + 1) B) HOV.out
            rw [z1, z2, z3] at HWK
            clear hat6 hi6 hfr6 hb6 z1 z2 z3 HOWN
            rw [show (List.map (fun x : Int × Int × Cx => x.1) []).length = 0 from rfl]
            go_wp2_with fail
            refine HWK.out.mono ?_
            rintro e w7 ⟨v7, rfl, ⟨h7, ⟨s7, r7, q7⟩, f7⟩⟩
            obtain ⟨l7, c7, rfl⟩ := r7.form
            have HF7 := Lib.hid f7
            have HAN := Lib.hid (answer_any h7 HOK.out (now + 1) 1 0 0 (by omega) (by omega))
            obtain ⟨z1, z2, z3⟩ := act_over_on (S := S) (S1 := S.ansS (now + 1) 1 0 0) (B := B) (B1 := B) (l := []) HOV.out
            rw [z1, z3] at HAN
            clear h7 r7 q7 f7 z1 z2 z3 HWK
            rw [show ([] : List Ac).length = 0 from rfl]
            go_wp2_with fail
            refine HAN.out.mono ?_
            rintro e w8 ⟨v8, rfl, ⟨h8, ⟨s8, r8, q8⟩, f8⟩⟩
            obtain ⟨l8, c8, rfl⟩ := r8.form
            have HF8 := Lib.hid f8
            clear h8 r8 q8 f8 HAN
            rw [show ([] : List Ac).length = 0 from rfl]
            go_wp2_with fail
            refine (lives_any _).mono ?_
            rintro e w9 ⟨rfl, hb9⟩
            have HFIN := Lib.hid (HBIG.out _ ((((HFR.out.trans (Fr.ofBelow (F := CFoot cb mb bb) HB6.out) (fun _ h => .inl h)).trans HF7.out (fun _ h => .inl h)).trans HF8.out (fun _ h => .inl h)).trans (Fr.ofBelow (F := CFoot cb mb bb) hb9) (fun _ h => .inl h)))
            clear hb9
            go_wp2_with fail
            go_ret
            exact ⟨rfl, HFIN.out⟩
      · rw [hov] at h; cases h
    · rcases hlast with ⟨h, _⟩ | ⟨_, hw2, hat2⟩
      · rw [hov] at h; cases h
      · have HOV := Lib.hid hov
        have HW2 := Lib.hid hw2
        have HAT2 := Lib.hid hat2
        have HTM := Lib.hid htm
        have hnb := next_bd htm
        have HNB := Lib.hid hnb
        obtain ⟨nb1, nb2, _⟩ := hnb
        rw [HSC.out] at nb2
        have hxdl : x.dl ≤ 400 := by omega
        have HT2 := Lib.hid τ2
        clear hov hw2 hat2 htm hnil τ2
        go_wp2_with fail
        go_loopw [16, 18, 19] (fun ve vn vk wi => ∃ (k : Nat) (e : Int), vk = .int .i64 k ∧ ve = .int .i64 0 ∧ vn = .int .i64 e ∧ k ≤ q + 1 ∧ (-1 ≤ e ∧ e ≤ 1000) ∧ Hid (e = if k ≤ q then -1 else S.nextT) ∧ Below wo.heap.size wo wi) (fun _ _ vk _ => (q + 1 - intOf vk).toNat)
        case atStart => exact ⟨0, -1, rfl, rfl, rfl, Nat.zero_le _, by omega, by rw [if_pos (Nat.zero_le _)]; rfl, Below.refl _ _⟩
        case round =>
          obtain ⟨k, e, rfl, rfl, rfl, hk, ⟨e0, e1⟩, he, hbw⟩ := hrel
          have HBW := Lib.hid hbw
          by_cases hkq : k < q + 1
          · have i1 : (0 : Int) ≤ (k : Int) := by omega
            have i2 : (k : Int) < (q : Int) + 1 := by omega
            by_cases hk1 : k < q
            · obtain ⟨b, hb, hcase⟩ := HMID.out k hk1
              obtain ⟨g, off, rfl, hcell⟩ := HCELL.out k b hb
              have c0 := hcell _ hbw 0 _ rfl
              rw [Nat.add_zero] at c0
              have he' : Hid (e = if k + 1 ≤ q then -1 else S.nextT) := by
                have := he.out; rw [if_pos (by omega)] at this; unfold Hid; rw [if_pos (by omega)]; exact this
              have z5' := bkeep hbw z5
              clear hb hcell hbw
              rcases hcase with ⟨hw, hlt⟩ | hw
              · have b3 : (b.what == 3) = false := beq_eq_false_iff_ne.2 (by omega)
                have b1 : (b.what == 1) = true := beq_iff_eq.2 hw
                have b5 : decide (x.dl ≤ now) = false := decide_eq_false (by omega)
                clear hw
                go_wp2_with fail
                go_roundw
                case rel => exact ⟨k + 1, e, by go_num, rfl, rfl, by omega, ⟨e0, e1⟩, he', HBW.out⟩
                case measure => simp [intOf]; omega
              · have b3 : (b.what == 3) = false := beq_eq_false_iff_ne.2 (by omega)
                have b1 : (b.what == 1) = false := beq_eq_false_iff_ne.2 (by omega)
                have b2 : (b.what == 2) = false := beq_eq_false_iff_ne.2 (by omega)
                clear hw
                go_wp2_with fail
                go_roundw
                case rel => exact ⟨k + 1, e, by go_num, rfl, rfl, by omega, ⟨e0, e1⟩, he', HBW.out⟩
                case measure => simp [intOf]; omega
            · obtain rfl : k = q := by omega
              obtain ⟨g, off, rfl, hcell⟩ := HCELL.out k a HLAST.out
              have c0 := hcell _ hbw 0 _ rfl
              have c1 := hcell _ hbw 1 (.int .i64 S.nextT) (by rw [← HAT2.out]; rfl)
              rw [Nat.add_zero] at c0
              rw [← Nat.add_assoc] at c1
              have b3 : (a.what == 3) = false := beq_eq_false_iff_ne.2 (by have := HW2.out; omega)
              have b1 : (a.what == 1) = false := beq_eq_false_iff_ne.2 (by have := HW2.out; omega)
              have b2 : (a.what == 2) = true := beq_iff_eq.2 HW2.out
              have he' : Hid (S.nextT = if k + 1 ≤ k then -1 else S.nextT) := by unfold Hid; rw [if_neg (by omega)]
              clear hcell hbw
              go_wp2_with fail
              go_roundw
              case rel => exact ⟨k + 1, S.nextT, by go_num, rfl, rfl, Nat.le_refl _, ⟨by omega, by omega⟩, he', HBW.out⟩
              case measure => simp [intOf]
          · obtain rfl : k = q + 1 := by omega
            have hee : e = S.nextT := by have := he.out; rw [if_neg (by omega)] at this; exact this
            subst hee
            have hatr := HAT.out.below hbw
            have HATR := Lib.hid hatr
            have z5' := bkeep hbw z5
            have u5 : decide (S.nextT < 0) = false := decide_eq_false (by omega)
            have u6 : decide (S.nextT < now) = false := decide_eq_false (by omega)
            have u7 : decide (x.dl < S.nextT) = false := decide_eq_false (by omega)
            have hfrr := HFR.out.trans (Fr.ofBelow (F := CFoot cb mb bb) hbw) (fun _ h => .inl h)
            have hyp : 1 ≤ S.p.tmo := by rw [HSP.out]; exact hy1
            have HWAKE : Hid (∀ w7 v7, GR wr w7 cb mb bb (actS S (S.wakeS S.nextT B)) (actB S B (S.wakeB S.nextT B)) (actL S (S.wakeS S.nextT B) (S.wakeL S.nextT B)) v7 → EInv w4 w7 cb mb bb x y late (i + 1) S.nextT v7) := by
              intro w7 v7 ⟨g1, ⟨sg, g2, g3⟩, g4⟩
              have hwb : -1000000000 ≤ S.nextT ∧ S.nextT ≤ 1000000 := by omega
              have hsp := (wake_spent HOK.out hwb B).act
              refine ⟨⟨_, _, _, g1, HOK.out.act (HOK.out.wake hwb B), HBOK.out.act S (HBOK.out.wake S _), hsp.c.trans HSC.out, hsp.p.trans HSP.out, act_end HOV.out (wake_mid HOK.out hwb B), ?_, ⟨sg, g2⟩, act_nil HOV.out, ?_⟩, ⟨by omega, by omega, n2⟩, hfrr.trans g4 (fun _ h => .inl h)⟩
              · exact Nat.le_trans (actL_len (HOK.out.wake hwb B) (wakeL_len HOK.out hwb B)) (by omega)
              · rcases wake_tm B HOV.out HTM.out hyp with h | ⟨h1, h2, h3⟩
                · exact .inl ⟨h, by have := HTM.out.dl; rw [HSC.out] at this; omega⟩
                · right
                  have hdl := HTM.out.dl
                  rw [HSC.out] at hdl
                  by_cases hn : S.nextT = now
                  · have hτ : τ = 1 := by
                      rcases (show τ = 0 ∨ τ = 1 by omega) with e | e
                      · exact absurd (HNB.out.2.2.1 hn) (HT2.out e)
                      · exact e
                    exact ⟨h1, h2, 0, by omega, by omega, fun _ => h3 hn, by push_cast; omega⟩
                  · exact ⟨h1, h2, 1, by omega, by omega, fun e => by omega, by push_cast; omega⟩
            clear hatr hbw
            by_cases hiM : i < M
            · obtain ⟨t, ht⟩ : ∃ t, (stepsOf d)[i]? = some t := ⟨_, List.getElem?_eq_getElem (by rw [HLEN.out]; exact hiM)⟩
              obtain ⟨g, off, rfl, hcell⟩ := HROW.out i t ht
              obtain ⟨⟨b0', b1'⟩, ⟨b2', b3'⟩, _⟩ := steps_bd ht
              have d0 := hcell _ hfrr 0 _ rfl
              have d1 := hcell _ hfrr 1 _ rfl
              have d2 := hcell _ hfrr 2 _ rfl
              have d3 := hcell _ hfrr 3 _ rfl
              have d4 := hcell _ hfrr 4 _ rfl
              rw [Nat.add_zero] at d0
              rw [← Nat.add_assoc] at d1 d2 d3 d4
              have i3 : (0 : Int) ≤ (i : Int) := by omega
              have i4 : (i : Int) < (M : Int) := by omega
              have u1 : decide ((i : Int) < (M : Int)) = true := decide_eq_true i4
              have HFRR := Lib.hid hfrr
              clear hcell ht hfrr
              by_cases hn2 : now + t.wait < S.nextT
              · have u2 : decide (now + t.wait < S.nextT) = true := decide_eq_true hn2
                by_cases hd3 : t.do_ < 3
                · have u3 : decide (t.do_ < 3) = true := decide_eq_true hd3
                  have HANS := Lib.hid (answer_any (HATR.out.below (w' := wr.drew) (Below.refl _ _).drew) HOK.out (now + t.wait) t.try_ t.e t.not_ (by omega) (by omega))
                  have hab : 0 ≤ S.p.back := by rw [HSP.out]; have := HYB.out; omega
                  have HA2 : Hid (∀ w7 v7, GR wr w7 cb mb bb (actS S (S.ansS (now + t.wait) t.try_ t.e t.not_)) B (actL S (S.ansS (now + t.wait) t.try_ t.e t.not_) []) v7 → EInv w4 w7 cb mb bb x y late (i + 1) (now + t.wait) v7) := by
                    intro w7 v7 ⟨g1, ⟨sg, g2, g3⟩, g4⟩
                    have hwb : -1000000000 ≤ now + t.wait ∧ now + t.wait ≤ 1000000 := by omega
                    have hnb' : -1000000000 ≤ t.not_ ∧ t.not_ ≤ 1000000 := by omega
                    have hsp := (ans_spent S (now + t.wait) t.try_ t.e t.not_).act
                    refine ⟨⟨_, _, _, g1, HOK.out.act (HOK.out.ans _ _ hwb hnb'), HBOK.out, hsp.c.trans HSC.out, hsp.p.trans HSP.out, act_end HOV.out (mid_nil _ _), ?_, ⟨sg, g2⟩, act_nil HOV.out, ?_⟩, ⟨by omega, by omega, n2⟩, HFRR.out.trans g4 (fun _ h => .inl h)⟩
                    · exact Nat.le_trans (actL_len (n := 0) (HOK.out.ans _ _ hwb hnb') (Nat.le_refl _)) (by omega)
                    · rcases ans_tm HOV.out HTM.out hn2 t.try_ t.e t.not_ hab with h | ⟨h1, h2⟩
                      · exact .inl ⟨h, by have := HTM.out.dl; rw [HSC.out] at this; omega⟩
                      · exact .inr ⟨h1, h2, 1, by omega, by omega, fun e => by omega, by push_cast; omega⟩
                  clear hn2 hd3
                  go_wp2_with fail
                  refine wp_region_split_held 17 (fun w' => w'.cell? ⟨g, off + i * 5 + 2, none⟩ = some (.int .i64 t.try_) ∧ w'.cell? ⟨g, off + i * 5 + 3, none⟩ = some (.int .i64 t.e) ∧ w'.cell? ⟨g, off + i * 5 + 4, none⟩ = some (.int .i64 t.not_)) (by kernel_rfl) (by kernel_rfl) ⟨d2, d3, d4⟩ (fun K0 hK0 hHeld => ?_)
                  simp only [List.take_succ_cons, List.take_zero]
                  refine wpAnyH_take (i := 0) (v := ?_) rfl (by kernel_rfl) (by kernel_rfl) (by kernel_rfl) (fun _ _ _ h => h) (Or.inl ⟨by rfl, ?_⟩) (by assumption) ?_
                  rotate_left
                  · (intro w hSw; (try dsimp only at hSw); go_simp; try with_reducible rfl)
                  try simp only [Act.put]
                  refine wpAnyH_take (i := 1) (v := ?_) rfl (by kernel_rfl) (by kernel_rfl) (by kernel_rfl) (fun _ _ _ h => h) (Or.inl ⟨by rfl, ?_⟩) (by assumption) ?_
                  rotate_left
                  · (intro w hSw; (try dsimp only at hSw); go_simp; try with_reducible rfl)
                  try simp only [Act.put]
                  refine wpAnyH_take (i := 2) (v := ?_) rfl (by kernel_rfl) (by kernel_rfl) (by kernel_rfl) (fun _ _ _ h => h) (Or.inl ⟨by rfl, ?_⟩) (by assumption) ?_
                  rotate_left
                  · (intro w hSw; (try dsimp only at hSw); go_simp; try with_reducible rfl)
                  try simp only [Act.put]
                  refine wpAnyH_take (i := 3) (v := ?_) rfl (by kernel_rfl) (by kernel_rfl) (by kernel_rfl) (fun _ _ _ h => h) (Or.inl ⟨by rfl, ?_⟩) (by assumption) ?_
                  rotate_left
                  · (intro w hSw; (try dsimp only at hSw); go_simp; try with_reducible rfl)
                  try simp only [Act.put]
                  refine wpAnyH_take (i := 4) (v := ?_) rfl (by kernel_rfl) (by kernel_rfl) (by kernel_rfl) (fun _ _ _ h => h) (Or.inl ⟨by rfl, ?_⟩) (by assumption) ?_
                  rotate_left
                  · (intro w hSw; (try dsimp only at hSw); go_simp; try with_reducible rfl)
                  try simp only [Act.put]
                  refine wpAnyH_take (i := 5) (v := ?_) rfl (by kernel_rfl) (by kernel_rfl) (by kernel_rfl) (fun _ _ _ h => h) (Or.inl ⟨by rfl, ?_⟩) (by assumption) ?_
                  rotate_left
                  · (intro w hSw; (try dsimp only at hSw); go_simp; try with_reducible rfl)
                  try simp only [Act.put]
                  refine wpAnyH_take (i := 6) (v := ?_) rfl (by kernel_rfl) (by kernel_rfl) (by kernel_rfl) (fun _ _ _ h => h) (Or.inl ⟨by rfl, ?_⟩) (by assumption) ?_
                  rotate_left
                  · (intro w hSw; (try dsimp only at hSw); go_simp; try with_reducible rfl)
                  try simp only [Act.put]
                  refine wpAnyH_take (i := 7) (v := ?_) rfl (by kernel_rfl) (by kernel_rfl) (by kernel_rfl) (fun _ _ _ h => h) (Or.inl ⟨by rfl, ?_⟩) (by assumption) ?_
                  rotate_left
                  · (intro w hSw; (try dsimp only at hSw); go_simp; try with_reducible rfl)
                  try simp only [Act.put]
                  refine wpAnyH_take (i := 8) (v := ?_) rfl (by kernel_rfl) (by kernel_rfl) (by kernel_rfl) (fun _ _ _ h => h) (Or.inl ⟨by rfl, ?_⟩) (by assumption) ?_
                  rotate_left
                  · (intro w hSw; (try dsimp only at hSw); go_simp; try with_reducible rfl)
                  try simp only [Act.put]
                  refine wpAnyH_take (i := 9) (v := ?_) rfl (by kernel_rfl) (by kernel_rfl) (by kernel_rfl) (fun _ _ _ h => h) (Or.inl ⟨by rfl, ?_⟩) (by assumption) ?_
                  rotate_left
                  · (intro w hSw; (try dsimp only at hSw); go_simp; try with_reducible rfl)
                  try simp only [Act.put]
                  refine wpAnyH_take (i := 10) (v := ?_) rfl (by kernel_rfl) (by kernel_rfl) (by kernel_rfl) (fun _ _ _ h => h) (Or.inl ⟨by rfl, ?_⟩) (by assumption) ?_
                  rotate_left
                  · (intro w hSw; (try dsimp only at hSw); go_simp; try with_reducible rfl)
                  try simp only [Act.put]
                  refine wpAnyH_take (i := 11) (v := ?_) rfl (by kernel_rfl) (by kernel_rfl) (by kernel_rfl) (fun _ _ _ h => h) (Or.inl ⟨by rfl, ?_⟩) (by assumption) ?_
                  rotate_left
                  · (intro w hSw; (try dsimp only at hSw); go_simp; try with_reducible rfl)
                  try simp only [Act.put]
                  refine wpAnyH_take (i := 12) (v := ?_) rfl (by kernel_rfl) (by kernel_rfl) (by kernel_rfl) (fun _ _ _ h => h) (Or.inl ⟨by rfl, ?_⟩) (by assumption) ?_
                  rotate_left
                  · (intro w hSw; (try dsimp only at hSw); go_simp; try with_reducible rfl)
                  try simp only [Act.put]
                  refine wpAnyH_take (i := 13) (v := ?_) rfl (by kernel_rfl) (by kernel_rfl) (by kernel_rfl) (fun _ _ _ h => h) (Or.inl ⟨by rfl, ?_⟩) (by assumption) ?_
                  rotate_left
                  · (intro w hSw; (try dsimp only at hSw); go_simp; try with_reducible rfl)
                  try simp only [Act.put]
                  refine wpAnyH_take (i := 14) (v := ?_) rfl (by kernel_rfl) (by kernel_rfl) (by kernel_rfl) (fun _ _ _ h => h) (Or.inl ⟨by rfl, ?_⟩) (by assumption) ?_
                  rotate_left
                  · (intro w hSw; (try dsimp only at hSw); go_simp; try with_reducible rfl)
                  try simp only [Act.put]
                  refine wpAnyH_take (i := 15) (v := ?_) rfl (by kernel_rfl) (by kernel_rfl) (by kernel_rfl) (fun _ _ _ h => h) (Or.inl ⟨by rfl, ?_⟩) (by assumption) ?_
                  rotate_left
                  · (intro w hSw; (try dsimp only at hSw); go_simp; try with_reducible rfl)
                  try simp only [Act.put]
                  refine wpAnyH_take (i := 16) (v := ?_) rfl (by kernel_rfl) (by kernel_rfl) (by kernel_rfl) (fun _ _ _ h => h) (Or.inl ⟨by rfl, ?_⟩) (by assumption) ?_
                  rotate_left
                  · (intro w hSw; (try dsimp only at hSw); go_simp; try with_reducible rfl)
                  try simp only [Act.put]
                  refine wpAnyH_done (by kernel_rfl) ?_ _
                  simp only [Exit.then]
                  refine hK0 _ _ ?_
                  clear hK0 K0 hHeld
                  try simp only [Act.put]
                  go_wp2_with fail
                  refine HANS.out.mono ?_
                  rintro e w7 ⟨v7, rfl, hg⟩
                  have HNEW := Lib.hid (HA2.out w7 v7 (hg.before (Below.refl _ _).drew))
                  clear hg
                  go_wp2_with fail
                  go_roundw
                  case rel => exact ⟨i + 1, now + t.wait, rfl, rfl, by go_num, HNEW.out⟩
                  case measure => simp [intOf]; omega
                · have u3 : decide (t.do_ < 3) = false := decide_eq_false hd3
                  clear hn2 hd3
                  have HWN := Lib.hid (wake_any HATR.out HOK.out HBOK.out S.nextT (by omega))
                  clear z5
                  go_wp2_with fail
                  refine HWN.out.mono ?_
                  rintro e w7 ⟨v7, rfl, hg⟩
                  have HNEW := Lib.hid (HWAKE.out w7 v7 hg)
                  clear hg
                  go_wp2_with fail
                  go_roundw
                  case rel => exact ⟨i + 1, S.nextT, rfl, rfl, by go_num, HNEW.out⟩
                  case measure => simp [intOf]; omega
              · have u2 : decide (now + t.wait < S.nextT) = false := decide_eq_false hn2
                clear hn2
                have HWN := Lib.hid (wake_any HATR.out HOK.out HBOK.out S.nextT (by omega))
                clear z5
                go_wp2_with fail
                refine HWN.out.mono ?_
                rintro e w7 ⟨v7, rfl, hg⟩
                have HNEW := Lib.hid (HWAKE.out w7 v7 hg)
                clear hg
                go_wp2_with fail
                go_roundw
                case rel => exact ⟨i + 1, S.nextT, rfl, rfl, by go_num, HNEW.out⟩
                case measure => simp [intOf]; omega
            · have u1 : decide ((i : Int) < (M : Int)) = false := decide_eq_false (by omega)
              clear hfrr
              have HWN := Lib.hid (wake_any HATR.out HOK.out HBOK.out S.nextT (by omega))
              clear z5
              go_wp2_with fail
              refine HWN.out.mono ?_
              rintro e w7 ⟨v7, rfl, hg⟩
              have HNEW := Lib.hid (HWAKE.out w7 v7 hg)
              clear hg
              go_wp2_with fail
              go_roundw
              case rel => exact ⟨i + 1, S.nextT, rfl, rfl, by go_num, HNEW.out⟩
              case measure => simp [intOf]; omega

end Go.Proofs.Ytipmajcefcfnlaa
