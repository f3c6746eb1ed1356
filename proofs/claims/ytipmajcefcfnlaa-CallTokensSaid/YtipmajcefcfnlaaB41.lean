/- The walk of CallTokens. -/
import Derived.Test.YtipmajcefcfnlaaB40
namespace Go.Proofs.Ytipmajcefcfnlaa
open Go.RowKit
attribute [local go_sem ↓] Go.wp_at_zero Go.wp_at_succ

/-- What the outer loop knows. -/
structure TInv (w5 wr : World) (bb : Nat) (y : Pol) (i : Nat) (mo : Int) : Prop where
  it : ∃ B, BkAt wr bb B ∧ Paid2 y B i mo
  fr : Fr (fun k => k = bb) w5 wr

/-- .. and the inner one: w9: the world at its start. -/
structure TIn (w9 wr : World) (cb mb bb : Nat) (Bf : Bk) (k : Nat) (now : Int) : Prop where
  it : ∃ S B, CallAt wr cb mb bb S B ∧ S.Ok ∧ B.Ok ∧ 1 ≤ S.made ∧ B.of = Bf.of ∧ B.per = Bf.per ∧ B.most = Bf.most ∧ (S.made - 1) * Bf.of + B.parts = Bf.parts
  now : 0 ≤ now ∧ now ≤ 40 * k
  fr : Fr (CFoot cb mb bb) w9 wr

theorem fresh_ok {B : Bk} (h : B.Ok) : B.fresh.Ok := by
  obtain ⟨h1, h2, h3, h4⟩ := h
  exact ⟨h1, h2, ⟨by show 0 ≤ min (B.parts + B.per) B.most; omega, by show min (B.parts + B.per) B.most ≤ B.most; omega⟩, h4⟩

theorem mo_bd {y : Pol} {B : Bk} {i : Nat} {mo : Int} (h : Paid2 y B i mo) (hi : i ≤ 7) (h1 : 0 ≤ y.per ∧ y.per < 5) (h2 : 1 ≤ y.of ∧ y.of ≤ 7) (h3 : 0 ≤ y.burst ∧ y.burst < 6) : mo ≤ 70 := by
  have a := h.all
  have b := h.ok.parts.1
  have c := h.pos
  have e1 : mo ≤ mo * y.of := by
    have := Int.mul_le_mul_of_nonneg_left h2.1 c
    rw [Int.mul_one] at this; exact this
  have e2 : y.burst * y.of ≤ 35 := by
    rcases (show y.burst = 0 ∨ y.burst = 1 ∨ y.burst = 2 ∨ y.burst = 3 ∨ y.burst = 4 ∨ y.burst = 5 by omega) with e | e | e | e | e | e <;> rw [e] <;> omega
  have e3 : (i : Int) * y.per ≤ 28 := by
    rcases (show y.per = 0 ∨ y.per = 1 ∨ y.per = 2 ∨ y.per = 3 ∨ y.per = 4 by omega) with e | e | e | e | e <;> rw [e] <;> omega
  omega

set_option maxRecDepth 8000 in
set_option maxHeartbeats 4000000 in
theorem tokens_walk {w : World} {A A1 A2 : Option Addr} {n n1 n2 : Nat} {p d : List Int} {rows : List (List Int)} (h : ArgInts w A n p) (h1 : ArgRows w A1 n1 rows) (h2 : ArgInts w A2 n2 d) (cap cap1 cap2 : Nat) :
    Calls Try.prog 8 #[.slice A n cap, .slice A1 n1 cap1, .slice A2 n2 cap2] w fun e w' => e = .returned (.bool true) ∧ Below w.heap.size w w' := by
  have HPL := Lib.hid (pol_any h cap)
  have H1 := Lib.hid h1
  have H2 := Lib.hid h2
  clear h h1 h2
  go_enter Try.func8, Try.ntmps8
  go_wp2_with fail
  refine HPL.out.mono ?_
  rintro e w3 ⟨rfl, hb3⟩
  have hyb := polOf_bd p
  obtain ⟨y, hy⟩ : ∃ y, y = polOf p := ⟨_, rfl⟩
  rw [← hy] at hyb ⊢
  have HYB := Lib.hid hyb
  have HB3 := Lib.hid hb3
  have hz3 := hb3.size
  dsimp only [polVal]
  obtain ⟨⟨y1, y2⟩, ⟨y3, y4⟩, ⟨y5, y6⟩, ⟨ya, yb⟩, ⟨yc, yd⟩, ⟨y7, y8⟩, ⟨y9, y10⟩⟩ := hyb
  clear hy hb3
  go_wp2_with fail
  obtain ⟨W4, hW4⟩ : ∃ W4, W4 = w3.alloc (.cells #[.int .i64 y.tmo, .int .i64 y.tries, .int .i64 y.back, .int .i64 y.hedge, .int .i64 y.per, .int .i64 y.of, .int .i64 y.burst] 29) := ⟨_, rfl⟩
  rw [← hW4]
  have hb4 : Below w3.heap.size w3 W4 := by rw [hW4]; exact (Below.refl _ _).alloc (Nat.le_refl _) _
  have k6 : W4.heap[w3.heap.size]? = some (.cells #[.int .i64 y.tmo, .int .i64 y.tries, .int .i64 y.back, .int .i64 y.hedge, .int .i64 y.per, .int .i64 y.of, .int .i64 y.burst] 29 (0, 0)) := by rw [hW4]; exact heap_alloc_new _ _
  have hz4 : w3.heap.size < W4.heap.size := by rw [hW4]; simp
  have hb4' := btrans HB3.out hb4
  obtain ⟨b6, hb6⟩ : ∃ b, b = w3.heap.size := ⟨_, rfl⟩
  have hb6' : w3.heap.size ≤ b6 := Nat.le_of_eq hb6.symm
  rw [← hb6] at k6 hz4 ⊢
  clear hb6 hW4 hb4
  refine (bnew_any _ _ _ _ ⟨by omega, by omega⟩ ⟨by omega, by omega⟩).mono ?_
  rintro e w5 ⟨bb, rfl, hbb, hbk, hb5⟩
  have hz5 := hb5.size
  have hbok : Bk.Ok (fullBk y) := by
    have hm : 0 ≤ y.burst * y.of ∧ y.burst * y.of ≤ 1000000 := by
      obtain ⟨a, ha⟩ : ∃ a : Nat, y.of = a := ⟨y.of.toNat, by omega⟩
      obtain ⟨b, hb⟩ : ∃ b : Nat, y.burst = b := ⟨y.burst.toNat, by omega⟩
      rw [ha, hb]
      have : b * a ≤ 1000 * 1000 := Nat.mul_le_mul (by omega) (by omega)
      exact ⟨by rw [← Int.natCast_mul]; omega, by rw [← Int.natCast_mul]; omega⟩
    exact ⟨by show 1 ≤ y.of ∧ y.of ≤ _; omega, by show 0 ≤ y.per ∧ y.per ≤ _; omega, ⟨hm.1, Int.le_refl _⟩, hm.2⟩
  have hbl := (Array.getElem?_eq_some_iff.1 hbk).1
  have M6 := Lib.hid ((hb5.block _ hz4).trans k6)
  have HB5 := Lib.hid (btrans hb4' hb5)
  have HINV : Hid (TInv w5 w5 bb y 0 0) := ⟨⟨fullBk y, hbk, ⟨rfl, rfl, rfl, by show 0 * y.of + y.burst * y.of ≤ y.burst * y.of + ((0 : Nat) : Int) * y.per; simp, hbok, Int.le_refl _⟩⟩, Fr.refl _ _⟩
  have HBIG : Hid (∀ W, Fr (fun k => k = bb) w5 W → Below w.heap.size w W) := fun W hW =>
    ((Fr.ofBelow (F := fun k => k = bb) HB5.out).trans hW (fun _ h => .inl h)).toBelow fun k hk hc => by omega
  obtain ⟨hrl, hrm, _⟩ := H1.out
  have HRL := Lib.hid hrl
  clear hbk hb5 hb4' k6 hbok hrl
  go_wp2_with fail
  go_loopw [9, 10, 11] (fun vc vm vi wr => ∃ (i : Nat) (mo : Int), vc = .int .i64 i ∧ vm = .int .i64 mo ∧ vi = .int .i64 i ∧ i ≤ 6 ∧ i ≤ n1 ∧ (0 ≤ mo ∧ mo ≤ 70) ∧ TInv w5 wr bb y i mo) (fun _ _ vi _ => (10 - intOf vi).toNat)
  case atStart => exact ⟨0, 0, rfl, rfl, rfl, by omega, Nat.zero_le _, by omega, HINV.out⟩
  case round =>
    obtain ⟨i, mo, rfl, rfl, rfl, hi6, hin, ⟨mo0, mo1⟩, hinv⟩ := hrel
    obtain ⟨wo, rfl⟩ : ∃ wo : World, wo = wr := ⟨_, rfl⟩
    obtain ⟨⟨B, hbk, hpaid⟩, hfr⟩ := hinv
    have HPAID := Lib.hid hpaid
    have HFR := Lib.hid hfr
    have hzo := hfr.size
    have ko := (hfr.block b6 (by omega) (by omega)).trans M6.out
    have KO := Lib.hid ko
    by_cases hc : i < n1 ∧ i < 6
    · obtain ⟨hc1, hc2⟩ := hc
      have t1 : decide ((i : Int) < (n1 : Int)) = true := decide_eq_true (by omega)
      have t2 : decide ((i : Int) < 6) = true := decide_eq_true (by omega)
      have HFRE := Lib.hid (fresh_any hbk hpaid.ok)
      clear hbk hpaid hfr ko
      go_wp2_with fail
      refine HFRE.out.mono ?_
      rintro e w6 ⟨rfl, hbk6, hf6⟩
      have HBK6 := Lib.hid hbk6
      have hz6 := hf6.size
      have HFR6 := Lib.hid (HFR.out.trans hf6 (fun _ h => .inl h))
      have k6 := (hf6.block b6 (by omega) (by omega)).trans KO.out
      have K6 := Lib.hid k6
      have harg := H1.out.keep (HBIG.out _ HFR6.out)
      obtain ⟨l, hl⟩ : ∃ l, rows[i]? = some l := ⟨_, List.getElem?_eq_getElem (by rw [HRL.out]; exact hc1)⟩
      obtain ⟨br, off, rfl, hrow⟩ := harg.2.2.resolve_left (by omega)
      obtain ⟨Ak, nk, ck, crow, hargk⟩ := hrow i l hl
      have HAK := Lib.hid hargk
      have c0 := block_cell k6 0 _ rfl
      have c1 := block_cell k6 1 _ rfl
      have c2 := block_cell k6 2 _ rfl
      have c3 := block_cell k6 3 _ rfl
      have c4 := block_cell k6 4 _ rfl
      have c5 := block_cell k6 5 _ rfl
      have c6 := block_cell k6 6 _ rfl
      have i1 : (0 : Int) ≤ (i : Int) := by omega
      have i2 : (i : Int) < (n1 : Int) := by omega
      have HCR := Lib.hid crow
      clear hbk6 hf6 k6 harg hrow hargk hl
      go_wp2_with fail
      refine wp_region_held_drew (S := fun w' => w'.cell? ⟨br, off + i, none⟩ = some (.slice Ak nk ck) ∧ w'.cell? ⟨b6, 0, none⟩ = some (.int .i64 y.tmo) ∧ w'.cell? ⟨b6, 1, none⟩ = some (.int .i64 y.tries) ∧ w'.cell? ⟨b6, 2, none⟩ = some (.int .i64 y.back) ∧ w'.cell? ⟨b6, 3, none⟩ = some (.int .i64 y.hedge) ∧ w'.cell? ⟨b6, 4, none⟩ = some (.int .i64 y.per) ∧ w'.cell? ⟨b6, 5, none⟩ = some (.int .i64 y.of) ∧ w'.cell? ⟨b6, 6, none⟩ = some (.int .i64 y.burst)) (by kernel_rfl) ⟨crow, c0, c1, c2, c3, c4, c5, c6⟩ (fun hHeld => ?_)
      refine wpAnyH_take (i := 0) (v := ?_) rfl (by kernel_rfl) (by kernel_rfl) (by kernel_rfl) (fun _ _ _ h => h) (Or.inl ⟨by rfl, ?_⟩) (by assumption) ?_
      rotate_left
      · (intro w hSw; (try dsimp only at hSw); go_simp; try with_reducible rfl)
      try simp only [Act.put]
      refine wpAnyH_take (i := 1) (v := ?_) rfl (by kernel_rfl) (by kernel_rfl) (by kernel_rfl) (fun _ _ _ h => h) (Or.inl ⟨by rfl, ?_⟩) (by assumption) ?_
      rotate_left
      · (intro w hSw; (try dsimp only at hSw); go_simp; try with_reducible rfl)
      try simp only [Act.put]
      refine wpAnyH_take (i := 2) (v := ?_) rfl (by kernel_rfl) (by kernel_rfl) (by kernel_rfl) (fun _ _ _ h => h) (Or.inl ⟨by rfl, ?_⟩) (by assumption) ?_
      rotate_left
      · (intro w hSw; (try dsimp only at hSw); go_simp; try with_reducible rfl)
      try simp only [Act.put]
      refine wpAnyH_take (i := 3) (v := ?_) rfl (by kernel_rfl) (by kernel_rfl) (by kernel_rfl) (fun _ _ _ h => h) (Or.inl ⟨by rfl, ?_⟩) (by assumption) ?_
      rotate_left
      · (intro w hSw; (try dsimp only at hSw); go_simp; try with_reducible rfl)
      try simp only [Act.put]
      refine wpAnyH_take (i := 5) (v := ?_) rfl (by kernel_rfl) (by kernel_rfl) (by kernel_rfl) (fun _ _ _ h => h) (Or.inl ⟨by rfl, ?_⟩) (by assumption) ?_
      rotate_left
      · (intro w hSw; (try dsimp only at hSw); go_simp; try with_reducible rfl)
      try simp only [Act.put]
      refine wpAnyH_take (i := 6) (v := ?_) rfl (by kernel_rfl) (by kernel_rfl) (by kernel_rfl) (fun _ _ _ h => h) (Or.inl ⟨by rfl, ?_⟩) (by assumption) ?_
      rotate_left
      · (intro w hSw; (try dsimp only at hSw); go_simp; try with_reducible rfl)
      try simp only [Act.put]
      refine wpAnyH_ready (rs := [4]) (by kernel_rfl) (by simp) ?_
      refine AllReadyH.cons rfl (fun K hK => ?_) AllReadyH.nil
      go_simp
      refine (ctx_any (HAK.out.keep (w' := w6.drew) (Below.refl _ _).drew) ck).mono ?_
      rintro e w7 ⟨s, hs, rfl, hb7⟩
      replace hb7 : Below w6.heap.size w6 w7 := bdrew hb7
      have hxb := ctxOf_bd l s
      obtain ⟨x, hx⟩ : ∃ x, x = ctxOf l s := ⟨_, rfl⟩
      rw [← hx] at hxb ⊢
      clear hx
      dsimp only [cxVal]
      refine hK.out _ _ (⟨bkeep hb7 HCR.out, bkeep hb7 c0, bkeep hb7 c1, bkeep hb7 c2, bkeep hb7 c3, bkeep hb7 c4, bkeep hb7 c5, bkeep hb7 c6⟩) (fun hHeld => ?_)
      clear hK K
      try simp only [Act.put]
      refine wpAnyH_ready (rs := [7]) (by kernel_rfl) (by simp) ?_
      refine AllReadyH.cons rfl (fun K hK => ?_) AllReadyH.nil
      go_simp
      refine (cnew_any x y bb _).mono ?_
      rintro e w8 ⟨cb, mb, rfl, hcall, hcb, hmb, hb8⟩
      have hz7 := hb7.size
      have hz8 := hb8.size
      have hb68 := btrans hb7 hb8
      have hbl6 := (Array.getElem?_eq_some_iff.1 HBK6.out).1
      have hat : CallAt w8 cb mb bb (newS x y) B.fresh := ⟨hcall, (hb68.block _ hbl6).trans HBK6.out, hcall.ne, by omega, by omega⟩
      refine hK.out _ _ (⟨bkeep hb68 HCR.out, bkeep hb68 c0, bkeep hb68 c1, bkeep hb68 c2, bkeep hb68 c3, bkeep hb68 c4, bkeep hb68 c5, bkeep hb68 c6⟩) (fun hHeld => ?_)
      clear hK K
      try simp only [Act.put]
      refine wpAnyH_ready (rs := [8]) (by kernel_rfl) (by simp) ?_
      refine AllReadyH.cons rfl (fun K hK => ?_) AllReadyH.nil
      go_simp
      refine hK.out _ _ (⟨bkeep hb68 HCR.out, bkeep hb68 c0, bkeep hb68 c1, bkeep hb68 c2, bkeep hb68 c3, bkeep hb68 c4, bkeep hb68 c5, bkeep hb68 c6⟩) (fun hHeld => ?_)
      clear hK K
      try simp only [Act.put]
      refine wpAnyH_done (by kernel_rfl) ?_ _
      try simp only [Act.put]
      have hok0 : (newS x y).Ok := newS_ok (by omega) (by omega) (by omega) (by omega) (by omega) (by omega)
      have HOK0 := Lib.hid hok0
      have HXB := Lib.hid hxb
      have HB68 := Lib.hid hb68
      have HFR8 := Lib.hid (HFR6.out.trans (Fr.ofBelow (F := fun k => k = bb) hb68) (fun _ h => .inl h))
      have hlt8 := hcall.lt
      have HC0 : Hid (Calls Try.prog 11 #[.pointer (some ⟨cb, 0, none⟩), .int .i64 0] w8 (Did w8 cb mb bb (newS x y).first B.fresh (newS x y).firstL)) := begin_any hat hok0 (by show (0 : Int) < 8; omega) 0 (by omega)
      have HOK1 : Hid ((newS x y).first.Ok) := hok0.act (hok0.begin (by show (0 : Int) < 8; omega) (by omega))
      have HM1 : Hid ((newS x y).first.made = 1) := first_made (by omega)
      clear hHeld hxb hb7 hb8 hb68 hcall hat hok0 crow c0 c1 c2 c3 c4 c5 c6
      go_wp2_with fail
      refine HC0.out.mono ?_
      rintro e w9 ⟨v9, rfl, ⟨h9, _, f9⟩⟩
      have hz9 := f9.size
      have HFR9 := Lib.hid (HFR8.out.trans f9 (F := fun k => k = bb) (fun b hb => by unfold CFoot at hb; omega))
      have HAT9 := Lib.hid h9
      have HST := Lib.hid (steps_any (H2.out.keep (HBIG.out _ HFR9.out)) cap2)
      clear h9 f9 HC0
      go_wp2_with fail
      refine HST.out.mono ?_
      rintro e wt ⟨v1, sS, rfl, rS, qS, hbt⟩
      have hzt := hbt.size
      have hatt := HAT9.out.below hbt
      have hcl := HAT9.out.call.lt
      have hcb9 := (Array.getElem?_eq_some_iff.1 HAT9.out.bk).1
      obtain ⟨M, hMM⟩ : ∃ M, M = stepsN d := ⟨_, rfl⟩
      have hM : M ≤ 24 := by rw [hMM]; exact stepsN_le d
      have hlen : (stepsOf d).length = M := by rw [hMM]; exact stepsTo_length _ _
      rw [← hMM] at rS
      have HLEN := Lib.hid hlen
      have HROW : Hid (∀ k t, (stepsOf d)[k]? = some t → ∃ g off cp, v1 = .slice (some ⟨g, off, none⟩) M cp ∧ ∀ W, Fr (CFoot cb mb bb) wt W → ∀ j u, (stCells t)[j]? = some u → W.cell? ⟨g, off + (k * 5 + j), none⟩ = some u) := by
        intro k t ht
        have hi := (List.getElem?_eq_some_iff.1 ht).1
        obtain ⟨g, off, cp, hv, hs, hc⟩ := row_rec rS (by omega)
        have hg := qS g hs
        refine ⟨g, off, cp, hv, fun W hW j u hu => hc W (hW.block g (rS.lt g hs) (by unfold CFoot; omega)) (k * 5 + j) u ?_⟩
        unfold stsCells
        rw [flat_get stCells 5 (fun _ => rfl) _ k t ht j (List.getElem?_eq_some_iff.1 hu).1]
        exact hu
      obtain ⟨lS, cS, rfl⟩ := rS.form
      have HFRT := Lib.hid (HFR9.out.trans (Fr.ofBelow (F := fun k => k = bb) hbt) (fun _ h => .inl h))
      have HTIN : Hid (TIn wt wt cb mb bb B.fresh 0 0) := ⟨⟨_, _, hatt, HOK1.out, (fresh_ok HPAID.out.ok), by rw [HM1.out]; omega, rfl, rfl, rfl, by rw [HM1.out]; simp⟩, ⟨Int.le_refl _, by show (0 : Int) ≤ _; omega⟩, Fr.refl _ _⟩
      clear hbt hatt hMM hlen rS qS HST
      go_wp2_with fail
      go_loopw [14, 15] (fun vn vk wi => ∃ (k : Nat) (now : Int), vn = .int .i64 now ∧ vk = .int .i64 k ∧ k ≤ M ∧ TIn wt wi cb mb bb B.fresh k now) (fun _ vk _ => (M - intOf vk).toNat)
      case atStart => exact ⟨0, 0, rfl, rfl, Nat.zero_le _, HTIN.out⟩
      case round =>
        obtain ⟨k, now, rfl, rfl, hk, hin⟩ := hrel
        obtain ⟨⟨S, B2, hat2, hok2, hbok2, hmd2, e1, e2, e3, e4⟩, ⟨n0, n1'⟩, hfr2⟩ := hin
        have HE1 := Lib.hid e1
        have HE2 := Lib.hid e2
        have HE3 := Lib.hid e3
        have HE4 := Lib.hid e4
        clear e1 e2 e3 e4
        have HFR2 := Lib.hid hfr2
        have HOK2 := Lib.hid hok2
        have HBOK2 := Lib.hid hbok2
        by_cases hlt : k < M
        · obtain ⟨t, ht⟩ : ∃ t, (stepsOf d)[k]? = some t := ⟨_, List.getElem?_eq_getElem (by rw [HLEN.out]; exact hlt)⟩
          obtain ⟨g, off', cp, hv, hcell⟩ := HROW.out k t ht
          obtain ⟨rfl, rfl⟩ : lS = some ⟨g, off', none⟩ ∧ cS = cp := by injection hv with e1 _ e3; exact ⟨e1, e3⟩
          obtain ⟨⟨b0, b1⟩, ⟨b2, b3⟩, _⟩ := steps_bd ht
          have c0 := hcell _ hfr2 0 _ rfl
          have c1 := hcell _ hfr2 1 _ rfl
          have c2 := hcell _ hfr2 2 _ rfl
          have c3 := hcell _ hfr2 3 _ rfl
          have c4 := hcell _ hfr2 4 _ rfl
          rw [Nat.add_zero] at c0
          rw [← Nat.add_assoc] at c1 c2 c3 c4
          have j1 : (0 : Int) ≤ (k : Int) := by omega
          have j2 : (k : Int) < (M : Int) := by omega
          have hnb : -1000000000 ≤ now + t.wait ∧ now + t.wait ≤ 1000000 := by omega
          have hnt : -1000000000 ≤ t.not_ ∧ t.not_ ≤ 1000000 := by omega
          have HD := Lib.hid (does_any hat2 hok2 hbok2 (now + t.wait) hnb t hnt)
          have HTK := Lib.hid (do_took hok2 hnb B2 t)
          have HOKN := Lib.hid (hok2.do_ hnb B2 t hnt)
          have HBOKN := Lib.hid (hbok2.do_ S (now + t.wait) t)
          unfold stVal at HD
          clear hat2 hok2 hbok2 hfr2 hcell ht hv hnb hnt
          go_wp2_with fail
          refine HD.out.mono ?_
          rintro e wd ⟨u, rfl, ⟨g1, ⟨sc, g2, g3⟩, g4⟩⟩
          have HNEW : Hid (TIn wt wd cb mb bb B.fresh (k + 1) (now + t.wait)) := by
            have hT := HTK.out
            refine ⟨⟨_, _, g1, HOKN.out, HBOKN.out, by have := hT.made; omega, hT.of.trans HE1.out, hT.per.trans HE2.out, hT.most.trans HE3.out, ?_⟩, ⟨by omega, by omega⟩, HFR2.out.trans g4 (fun _ h => .inl h)⟩
            have ha := hT.all
            have hb := HE4.out
            rw [HE1.out] at ha
            rw [← hb, ← ha, Int.sub_mul, Int.sub_mul, Int.sub_mul]; omega
          obtain ⟨lu, cu, rfl⟩ := g2.form
          clear g1 g2 g3 g4
          go_wp2_with fail
          go_roundw
          case rel => exact ⟨k + 1, _, rfl, by go_num, by omega, HNEW.out⟩
          case measure => simp [intOf]; omega
        · obtain rfl : M = k := by omega
          have HTRI := Lib.hid (tries_any hat2.call)
          obtain ⟨md, hmd⟩ : ∃ md, md = S.made := ⟨_, rfl⟩
          rw [← hmd] at HTRI hmd2
          have hmd8 : md ≤ 8 := by rw [hmd]; exact hok2.made.2
          have HMD := Lib.hid hmd
          have hpf := paid2_fresh HPAID.out (fresh_ok HPAID.out.ok)
          have HNEWP : Hid (Paid2 y B2 ((i + 1 : Nat) : Int) (mo + (md - 1))) := by
            refine ⟨HE1.out.trans hpf.of, HE2.out.trans hpf.per, HE3.out.trans hpf.most, ?_, hbok2, by omega⟩
            have ha := hpf.all
            have hb := HE4.out
            rw [hpf.of, ← HMD.out] at hb
            rw [Int.add_mul]
            show _ ≤ y.burst * y.of + ((i : Int) + 1) * y.per
            omega
          have hbd := mo_bd HNEWP.out (by omega) ⟨yc, yd⟩ ⟨y7, y8⟩ ⟨y9, y10⟩
          have HFRN := Lib.hid (HFRT.out.trans hfr2 (fun b hb => by unfold CFoot at hb; omega))
          have HBKN : Hid (BkAt wr bb B2) := hat2.bk
          have hmx : max (md - 1) 0 = md - 1 := by omega
          clear hmd hat2 hok2 hbok2 hfr2 hpf
          go_wp2_with fail
          refine HTRI.out.mono ?_
          rintro e we ⟨rfl, hwe⟩
          subst hwe
          go_wp2_with fail
          go_roundw
          case rel => exact ⟨i + 1, mo + (md - 1), by go_num, rfl, by go_num, by omega, by omega, ⟨by omega, hbd⟩, ⟨⟨B2, HBKN.out, HNEWP.out⟩, HFRN.out⟩⟩
          case measure => simp [intOf]; omega
    · have HBI := Lib.hid (HBIG.out _ HFR.out)
      have hdone := paid2_done hpaid y7
      have HMO := Lib.hid (fun W => most_any y.per y.of y.burst (i : Int) W ⟨by omega, by omega⟩ ⟨by omega, by omega⟩ ⟨by omega, by omega⟩ ⟨by omega, by omega⟩)
      obtain ⟨q, hq⟩ : ∃ q, q = y.burst + (i : Int) * y.per / y.of := ⟨_, rfl⟩
      rw [← hq] at hdone HMO
      have u1 : decide (mo ≤ q) = true := decide_eq_true hdone
      have e4 := block_cell ko 4 (.int .i64 y.per) rfl
      have e5 := block_cell ko 5 (.int .i64 y.of) rfl
      have e6 := block_cell ko 6 (.int .i64 y.burst) rfl
      clear hq hbk hpaid hfr ko
      by_cases hc1 : i < n1
      · have t1 : decide ((i : Int) < (n1 : Int)) = true := decide_eq_true (by omega)
        have t2 : decide ((i : Int) < 6) = false := decide_eq_false (by omega)
        clear hc
        go_wp2_with fail
        refine (HMO.out _).mono ?_
        rintro e w7 ⟨rfl, hb7⟩
        have HB7 := Lib.hid (btrans HBI.out hb7)
        clear hb7
        go_wp2_with fail
        refine (lives_any _).mono ?_
        rintro e w8 ⟨rfl, hb8⟩
        have HFIN := Lib.hid (btrans HB7.out hb8)
        clear hb8
        go_wp2_with fail
        go_ret
        exact ⟨rfl, HFIN.out⟩
      · have t1 : decide ((i : Int) < (n1 : Int)) = false := decide_eq_false (by omega)
        clear hc
        go_wp2_with fail
        refine (HMO.out _).mono ?_
        rintro e w7 ⟨rfl, hb7⟩
        have HB7 := Lib.hid (btrans HBI.out hb7)
        clear hb7
        go_wp2_with fail
        refine (lives_any _).mono ?_
        rintro e w8 ⟨rfl, hb8⟩
        have HFIN := Lib.hid (btrans HB7.out hb8)
        clear hb8
        go_wp2_with fail
        go_ret
        exact ⟨rfl, HFIN.out⟩

end Go.Proofs.Ytipmajcefcfnlaa
