/- The walk of CallOpens. -/
import Derived.Test.YtipmajcefcfnlaaB34
namespace Go.Proofs.Ytipmajcefcfnlaa
open Go.RowKit
attribute [local go_sem ↓] Go.wp_at_zero Go.wp_at_succ

/-- Ten truths in a block. -/
structure ArrAt (w : World) (ob : Nat) (K : List Bool) : Prop where
  blk : w.heap[ob]? = some (.cells (K.map Value.bool).toArray 32 (0, 0))
  len : K.length = 10
theorem ArrAt.cell {w : World} {ob : Nat} {K : List Bool} (h : ArrAt w ob K) (n : Nat) (hn : n < 10) : w.cell? ⟨ob, n, none⟩ = some (.bool (K.getD n false)) := by
  refine block_cell h.blk n _ ?_
  have hl : n < K.length := by rw [h.len]; exact hn
  simp [hl]
theorem ArrAt.free {w : World} {ob : Nat} {K : List Bool} (h : ArrAt w ob K) (n : Nat) : w.frozen? ⟨ob, n, none⟩ = false := block_free h.blk n
theorem ArrAt.set {w : World} {ob : Nat} {K : List Bool} (h : ArrAt w ob K) (n : Nat) (b : Bool) : ArrAt (w.setCell ⟨ob, n, none⟩ (.bool b)) ob (K.set n b) := by
  refine ⟨?_, by rw [List.length_set]; exact h.len⟩
  rw [setCell_block w ob n _ _ _ _ h.blk, List.setIfInBounds_toArray, List.map_set]
theorem ArrAt.keep {w w' : World} {ob : Nat} {K : List Bool} (h : ArrAt w ob K) (hb : w'.heap[ob]? = w.heap[ob]?) : ArrAt w' ob K := ⟨hb.trans h.blk, h.len⟩
theorem ArrAt.lt {w : World} {ob : Nat} {K : List Bool} (h : ArrAt w ob K) : ob < w.heap.size := (Array.getElem?_eq_some_iff.1 h.blk).1

theorem trk_step {K Kf : List Bool} {L : List Ac} {k : Nat} {a : Ac} (hk : L[k]? = some a) (h : trk K (L.drop k) = some Kf) : ∃ K2, trk1 K a = some K2 ∧ trk K2 (L.drop (k + 1)) = some Kf := by
  obtain ⟨hi, he⟩ := List.getElem?_eq_some_iff.1 hk
  rw [List.drop_eq_getElem_cons hi, he] at h
  unfold trk at h
  cases h1 : trk1 K a with
  | none => rw [h1] at h; cases h
  | some K2 => rw [h1] at h; exact ⟨K2, rfl, h⟩
theorem trk1_inv {K K2 : List Bool} {a : Ac} (h : trk1 K a = some K2) : (0 ≤ a.c.try_ ∧ a.c.try_ < 10) ∧ ((a.what = 1 ∧ K.getD a.c.try_.toNat false = false ∧ K2 = K.set a.c.try_.toNat true) ∨ (a.what = 4 ∧ K.getD a.c.try_.toNat false = true ∧ K2 = K.set a.c.try_.toNat false) ∨ (a.what ≠ 1 ∧ a.what ≠ 4 ∧ K2 = K)) := by
  unfold trk1 at h
  by_cases hb : 0 ≤ a.c.try_ ∧ a.c.try_ < 10
  · refine ⟨hb, ?_⟩
    rw [if_neg (by omega), around_small hb.1 hb.2] at h
    by_cases h1 : a.what = 1
    · rw [if_pos h1] at h
      cases hk : K.getD a.c.try_.toNat false with
      | true => rw [hk] at h; cases h
      | false => rw [hk] at h; injection h with h; exact .inl ⟨h1, rfl, h.symm⟩
    · rw [if_neg h1] at h
      by_cases h4 : a.what = 4
      · rw [if_pos h4] at h
        cases hk : K.getD a.c.try_.toNat false with
        | false => rw [hk] at h; cases h
        | true => rw [hk] at h; injection h with h; exact .inr (.inl ⟨h4, rfl, h.symm⟩)
      · rw [if_neg h4] at h
        injection h with h
        exact .inr (.inr ⟨h1, h4, h.symm⟩)
  · rw [if_pos hb] at h; cases h

/-- What the outer loop knows. -/
structure OInv (w4 wr : World) (cb mb bb ob : Nat) (i : Nat) (now : Int) (v : Value) : Prop where
  it : ∃ S B K L, CallAt wr cb mb bb S B ∧ OpI S ∧ B.Ok ∧ ArrAt wr ob K ∧ trk K L = some (opnL S.open_) ∧ L.length ≤ 1000 ∧ ∃ sb, RowAt wr 40 12 v L.length (acsCells L) sb ∧ ∀ g, sb = some g → ¬ CFoot cb mb bb g ∧ g ≠ ob
  now : 0 ≤ now ∧ now ≤ 40 * i
  fr : Fr (fun k => CFoot cb mb bb k ∨ k = ob) w4 wr

set_option maxRecDepth 8000 in
set_option maxHeartbeats 4000000 in
theorem opens_walk {w : World} {A A' A2 : Option Addr} {n n' n2 : Nat} {l p d : List Int} (h : ArgInts w A n l) (h' : ArgInts w A' n' p) (h2 : ArgInts w A2 n2 d) (cap cap' cap2 : Nat) :
    Calls Try.prog 3 #[.slice A n cap, .slice A' n' cap', .slice A2 n2 cap2] w fun e w' => e = .returned (.bool true) ∧ Below w.heap.size w w' := by
  have HBG := Lib.hid (begun_any h h' cap cap')
  have H2 := Lib.hid h2
  clear h h' h2
  go_enter Try.func3, Try.ntmps3
  go_wp2_with fail
  refine HBG.out.mono ?_
  rintro e w1 ⟨s, cb, mb, bb, rfl, hat, ⟨p1, p2, p3⟩, hb1⟩
  have hf := begun_facts l p s
  obtain ⟨x, hx⟩ : ∃ x, x = ctxOf l s := ⟨_, rfl⟩
  obtain ⟨y, hy⟩ : ∃ y, y = polOf p := ⟨_, rfl⟩
  have hxb := ctxOf_bd l s
  have HXT : Hid ((ctxOf l s).try_ = 0) := rfl
  have hyb := polOf_bd p
  rw [← hx] at hxb hat hf HXT ⊢
  rw [← hy] at hyb hat hf ⊢
  dsimp only [cxVal, polVal]
  have hlt := hat.call.lt
  have hlb := (Array.getElem?_eq_some_iff.1 hat.bk).1
  have HAT := Lib.hid hat
  have HB1 := Lib.hid hb1
  have HF := Lib.hid hf
  have HXB := Lib.hid hxb
  have HYB := Lib.hid hyb
  clear hx hy hxb hyb hat hb1 hf HBG
  go_wp2_with fail
  obtain ⟨W2, hW2⟩ : ∃ W2, W2 = ((w1.alloc (.cells #[.int .i64 x.req, .string x.call, .int .i64 x.try_, .bool x.idem, .bool x.shadow, .int .i64 x.dl, .int .i64 x.purse, .int .i64 x.ver, .int .i64 x.prio] 25)).alloc (.cells #[.int .i64 y.tmo, .int .i64 y.tries, .int .i64 y.back, .int .i64 y.hedge, .int .i64 y.per, .int .i64 y.of, .int .i64 y.burst] 29)).alloc (.cells #[.bool false, .bool false, .bool false, .bool false, .bool false, .bool false, .bool false, .bool false, .bool false, .bool false] 32) := ⟨_, rfl⟩
  rw [← hW2]
  have hb2 : Below w1.heap.size w1 W2 := by rw [hW2]; exact (((Below.refl _ _).alloc (Nat.le_refl _) _).alloc (by simp) _).alloc (by simp; omega) _
  obtain ⟨ob, hob⟩ : ∃ ob, ob = w1.heap.size + 1 + 1 := ⟨_, rfl⟩
  have harr : ArrAt W2 ob (List.replicate 10 false) := ⟨by rw [hW2, hob]; exact alloc_new' _ _ (by simp), rfl⟩
  have hobl : cb < ob ∧ mb < ob ∧ bb < ob := by omega
  have hobw : w.heap.size ≤ ob := by have := HB1.out.size; omega
  have hobz := harr.lt
  try rw [← hob]
  have hat2 := HAT.out.below hb2
  have hb2' := btrans HB1.out hb2
  have HST := Lib.hid (steps_any (H2.out.keep hb2') cap2)
  have HARR := Lib.hid harr
  have HAT2 := Lib.hid hat2
  have HB2 := Lib.hid hb2'
  clear hW2 hb2 hob harr hat2 hb2' hlt hlb
  refine HST.out.mono ?_
  rintro e w3 ⟨v1, sS, rfl, rS, qS, hb3⟩
  have hz3 := hb3.size
  have hat3 := HAT2.out.below hb3
  have HARR3 := Lib.hid (HARR.out.keep (hb3.block _ hobz))
  have HB3 := Lib.hid (btrans HB2.out hb3)
  have HC0 : Hid (Calls Try.prog 11 #[.pointer (some ⟨cb, 0, none⟩), .int .i64 0] w3 (Did w3 cb mb bb (newS x y).first (fullBk y) (newS x y).firstL)) := begin_any hat3 HF.out.1 HF.out.2.2.1 0 (by omega)
  have hsl := fun g hg => rS.lt g hg
  obtain ⟨M, hMM⟩ : ∃ M, M = stepsN d := ⟨_, rfl⟩
  have hM : M ≤ 24 := by rw [hMM]; exact stepsN_le d
  have hlen : (stepsOf d).length = M := by rw [hMM]; exact stepsTo_length _ _
  rw [← hMM] at rS
  obtain ⟨lS, cS, rfl⟩ := rS.form
  have HRS := Lib.hid rS
  have HQS := Lib.hid qS
  have HLEN := Lib.hid hlen
  clear hb3 hat3 hMM rS qS hlen hsl
  go_wp2_with fail
  refine HC0.out.mono ?_
  rintro e w4 ⟨v0, rfl, ⟨h4, ⟨s0, r4, q4⟩, f4⟩⟩
  have hz4 := f4.size
  have hcl := h4.call.lt
  have HROW : Hid (∀ i t, (stepsOf d)[i]? = some t → ∃ g off, lS = some ⟨g, off, none⟩ ∧ ∀ W, Fr (fun k => CFoot cb mb bb k ∨ k = ob) w4 W → ∀ j u, (stCells t)[j]? = some u → W.cell? ⟨g, off + (i * 5 + j), none⟩ = some u) := by
    intro i t ht
    have hi := (List.getElem?_eq_some_iff.1 ht).1
    obtain ⟨g, off, cp, hv, hs, hc⟩ := row_rec HRS.out (by have := HLEN.out; omega)
    injection hv with e1 _ e3
    have hg := HQS.out g hs
    have hgl := HRS.out.lt g hs
    refine ⟨g, off, e1, fun W hW j u hu => hc W ((hW.block g (by omega) ?_).trans (f4.block g hgl (by unfold CFoot; omega))) (i * 5 + j) u ?_⟩
    · rintro (h | h)
      · unfold CFoot at h; omega
      · omega
    · unfold stsCells
      rw [flat_get stCells 5 (fun _ => rfl) _ i t ht j (List.getElem?_eq_some_iff.1 hu).1]
      exact hu
  have hft := first_trk HF.out.1 HXT.out
  have HINV : Hid (OInv w4 w4 cb mb bb ob 0 0 v0) := by
    refine ⟨⟨_, _, _, _, h4, hft.2, HF.out.2.1, HARR3.out.keep (f4.block _ (by omega) (by unfold CFoot; omega)), hft.1, Nat.le_trans (firstL_len HF.out.1) (by omega), s0, r4, fun g hg => ⟨(q4 g hg).2, by have := (q4 g hg).1; omega⟩⟩, ⟨Int.le_refl _, by show (0 : Int) ≤ _; omega⟩, Fr.refl _ _⟩
  have HBIG : Hid (∀ W, Fr (fun k => CFoot cb mb bb k ∨ k = ob) w4 W → Below w.heap.size w W) := fun W hW =>
    (((Fr.ofBelow (F := fun k => CFoot cb mb bb k ∨ k = ob) HB3.out).trans (f4.mono (F' := fun k => CFoot cb mb bb k ∨ k = ob) (fun b hb => .inl hb)) (fun _ h => .inl h)).trans hW (fun _ h => .inl h)).toBelow fun k hk hc => by
      rcases hc with hc | hc
      · unfold CFoot at hc; omega
      · omega
  clear h4 r4 q4 f4 hft
  go_wp2_with fail
  go_loopw [12, 13, 14] (fun vn vt vi wr => ∃ (i : Nat) (now : Int), vn = .int .i64 now ∧ vi = .int .i64 i ∧ i ≤ M ∧ OInv w4 wr cb mb bb ob i now vt) (fun _ _ vi _ => (M + 1 - intOf vi).toNat)
  case atStart => exact ⟨0, 0, rfl, rfl, Nat.zero_le _, HINV.out⟩
  case round =>
    obtain ⟨i, now, rfl, rfl, hi, hinv⟩ := hrel
    obtain ⟨⟨S, B, K, L, hat, hop, hbok, harr, htrk, hll, sb, hrow, hsb⟩, ⟨n0, n1⟩, hfr⟩ := hinv
    obtain ⟨wo, hwo⟩ : ∃ wo : World, wo = wr := ⟨_, rfl⟩
    rw [← hwo] at hat harr hrow hfr ⊢
    clear hwo wr
    obtain ⟨la, lc, rfl⟩ := hrow.form
    obtain ⟨m, hm⟩ : ∃ m, m = L.length := ⟨_, rfl⟩
    rw [← hm] at hll ⊢
    have HM := Lib.hid hm
    have b0 : decide ((i : Int) ≤ (M : Int)) = true := decide_eq_true (by omega)
    have HCELL : Hid (∀ k a, L[k]? = some a → ∃ g off, la = some ⟨g, off, none⟩ ∧ ∀ W, Fr (fun k => k = ob) wo W → ∀ j u, (acCells a)[j]? = some u → W.cell? ⟨g, off + (k * 12 + j), none⟩ = some u) := by
      intro k a hk
      obtain ⟨g, off, cp, hv, hs, hc⟩ := row_rec hrow (by have := (List.getElem?_eq_some_iff.1 hk).1; omega)
      injection hv with e1 e2 e3
      refine ⟨g, off, e1, fun W hW j u hu => hc W (hW.block g (hrow.lt g hs) (hsb g hs).2) _ u ?_⟩
      unfold acsCells
      rw [flat_get acCells 12 (fun _ => rfl) _ k a hk j (List.getElem?_eq_some_iff.1 hu).1]
      exact hu
    have HAT := Lib.hid hat
    have HOP := Lib.hid hop
    have HBOK := Lib.hid hbok
    have HFR := Lib.hid hfr
    have HSTART : Hid (ArrAt wo ob K ∧ trk K (L.drop 0) = some (opnL S.open_)) := ⟨harr, htrk⟩
    clear hat hop hbok harr htrk hrow hsb hfr hm
    go_wp2_with fail
    go_loopw [15] (fun vk wr => ∃ (k : Nat) (K' : List Bool), vk = .int .i64 k ∧ k ≤ m ∧ ArrAt wr ob K' ∧ trk K' (L.drop k) = some (opnL S.open_) ∧ Fr (fun k => k = ob) wo wr) (fun vk _ => (m - intOf vk).toNat)
    case atStart => exact ⟨0, K, rfl, Nat.zero_le _, HSTART.out.1, HSTART.out.2, Fr.refl _ _⟩
    case round =>
      obtain ⟨k, K', rfl, hk, ha, ht, hf⟩ := hrel
      have HA := Lib.hid ha
      have HT := Lib.hid ht
      have HFI := Lib.hid hf
      by_cases hkm : k < m
      · obtain ⟨a, hak⟩ : ∃ a, L[k]? = some a := ⟨_, List.getElem?_eq_getElem (by rw [← HM.out]; exact hkm)⟩
        obtain ⟨g, off, rfl, hcell⟩ := HCELL.out k a hak
        obtain ⟨K2, h1, ht2⟩ := trk_step hak ht
        obtain ⟨⟨y0, y1⟩, hcase⟩ := trk1_inv h1
        have c0 := hcell _ hf 0 _ rfl
        have c4 := hcell _ hf 4 _ rfl
        rw [Nat.add_zero] at c0
        rw [← Nat.add_assoc] at c4
        have z0 := ha.cell a.c.try_.toNat (by omega)
        have zf := ha.free a.c.try_.toNat
        have i1 : (0 : Int) ≤ (k : Int) := by omega
        have i2 : (k : Int) < (m : Int) := by omega
        have HAR : Hid (Calls Try.prog 12 #[.int .i64 a.c.try_, .int .i64 10] wr fun e w' => e = .returned (.int .i64 a.c.try_) ∧ wr = w') := by
          have := around_any a.c.try_ 10 wr (by omega) (by omega) (by omega) (by omega)
          rwa [around_small y0 y1] at this
        clear ha ht hf hak h1
        rcases hcase with ⟨hw, hg, rfl⟩ | ⟨hw, hg, rfl⟩ | ⟨hw, hw4, rfl⟩
        · have b1 : (a.what == 1) = true := beq_iff_eq.2 hw
          have b4 : (a.what == 4) = false := beq_eq_false_iff_ne.2 (by omega)
          rw [hg] at z0
          have hset := HA.out.set a.c.try_.toNat true
          have hfs := HFI.out.trans (Fr.setCell (fun k => k = ob) wr ⟨ob, a.c.try_.toNat, none⟩ (.bool true) rfl) (fun _ h => .inl h)
          have d0 := hcell _ hfs 0 _ rfl
          rw [Nat.add_zero] at d0
          have HNEXT : Hid (ArrAt (wr.setCell ⟨ob, a.c.try_.toNat, none⟩ (.bool true)) ob (K'.set a.c.try_.toNat true) ∧ trk (K'.set a.c.try_.toNat true) (L.drop (k + 1)) = some (opnL S.open_) ∧ Fr (fun k => k = ob) wo (wr.setCell ⟨ob, a.c.try_.toNat, none⟩ (.bool true))) := ⟨hset, ht2, hfs⟩
          clear hset hfs hcell ht2 hw hg
          go_wp2_with fail
          refine HAR.out.mono ?_
          rintro e w' ⟨rfl, rfl⟩
          go_wp2_with fail
          go_roundw
          case rel => exact ⟨k + 1, _, by go_num, by omega, HNEXT.out.1, HNEXT.out.2.1, HNEXT.out.2.2⟩
          case measure => simp [intOf]; omega
        · have b1 : (a.what == 1) = false := beq_eq_false_iff_ne.2 (by omega)
          have b4 : (a.what == 4) = true := beq_iff_eq.2 hw
          rw [hg] at z0
          have hset := HA.out.set a.c.try_.toNat false
          have hfs := HFI.out.trans (Fr.setCell (fun k => k = ob) wr ⟨ob, a.c.try_.toNat, none⟩ (.bool false) rfl) (fun _ h => .inl h)
          have d0 := hcell _ hfs 0 _ rfl
          rw [Nat.add_zero] at d0
          have HNEXT : Hid (ArrAt (wr.setCell ⟨ob, a.c.try_.toNat, none⟩ (.bool false)) ob (K'.set a.c.try_.toNat false) ∧ trk (K'.set a.c.try_.toNat false) (L.drop (k + 1)) = some (opnL S.open_) ∧ Fr (fun k => k = ob) wo (wr.setCell ⟨ob, a.c.try_.toNat, none⟩ (.bool false))) := ⟨hset, ht2, hfs⟩
          clear hset hfs hcell ht2 hw hg
          go_wp2_with fail
          refine HAR.out.mono ?_
          rintro e w' ⟨rfl, rfl⟩
          go_wp2_with fail
          go_roundw
          case rel => exact ⟨k + 1, _, by go_num, by omega, HNEXT.out.1, HNEXT.out.2.1, HNEXT.out.2.2⟩
          case measure => simp [intOf]; omega
        · have b1 : (a.what == 1) = false := beq_eq_false_iff_ne.2 hw
          have b4 : (a.what == 4) = false := beq_eq_false_iff_ne.2 hw4
          have HNEXT := Lib.hid (And.intro HA.out (And.intro ht2 HFI.out))
          clear hcell ht2 hw hw4
          go_wp2_with fail
          refine HAR.out.mono ?_
          rintro e w' ⟨rfl, rfl⟩
          go_wp2_with fail
          go_roundw
          case rel => exact ⟨k + 1, _, by go_num, by omega, HNEXT.out.1, HNEXT.out.2.1, HNEXT.out.2.2⟩
          case measure => simp [intOf]; omega
      · obtain rfl : m = k := by omega
        rw [List.drop_eq_nil_of_le (by rw [HM.out]; exact Nat.le_refl _)] at ht
        have hKK : K' = opnL S.open_ := by injection ht
        rw [hKK] at ha
        have HA' := Lib.hid ha
        clear ht hKK HA HT ha hf
        go_wp2_with fail
        go_loop [17, 18] (fun vc vn => ∃ (q : Nat) (c : Int), vn = .int .i64 q ∧ vc = .int .i64 c ∧ q ≤ 10 ∧ (0 ≤ c ∧ c ≤ 10) ∧ Hid (c = many ((opnL S.open_).take q))) (fun _ vn => (10 - intOf vn).toNat)
        case atStart => exact ⟨0, 0, rfl, rfl, by omega, by omega, rfl⟩
        case round =>
          obtain ⟨q, c, rfl, rfl, hq, ⟨hc0, hc1⟩, hcm⟩ := hrel
          by_cases hq10 : q < 10
          · have z0 := HA'.out.cell q hq10
            have hget := opnL_get S.open_ hq10
            have hgd := opnL_getD S.open_ hq10
            obtain ⟨b, hb⟩ : ∃ b, b = S.open_.any fun o => decide (o.1 = (q : Int)) := ⟨_, rfl⟩
            rw [← hb] at hget hgd
            rw [hgd] at z0
            have hmt := many_take hget
            have hle : many ((opnL S.open_).take (q + 1)) ≤ 10 := by
              unfold many
              exact Nat.le_trans (List.length_filter_le _ _) (by rw [List.length_take, opnL_length]; omega)
            have HMT := Lib.hid hmt
            have HLE := Lib.hid hle
            clear hmt hle hget hgd hb
            have i1 : (0 : Int) ≤ (q : Int) := by omega
            have i2 : (q : Int) < 10 := by omega
            cases b with
            | true =>
              go_wp2_with fail
              go_round
              case rel => exact ⟨q + 1, _, by go_num, rfl, by omega, by have h1 := HMT.out; have h2 := HLE.out; have h3 := hcm.out; rw [if_pos rfl] at h1; omega, by have h1 := HMT.out; have h3 := hcm.out; rw [if_pos rfl] at h1; show c + 1 = _; omega⟩
              case measure => simp [intOf]; omega
            | false =>
              go_wp2_with fail
              go_round
              case rel => exact ⟨q + 1, _, by go_num, rfl, by omega, ⟨hc0, hc1⟩, by have h1 := HMT.out; have h3 := hcm.out; rw [if_neg (by decide)] at h1; show c = _; omega⟩
              case measure => simp [intOf]; omega
          · obtain rfl : q = 10 := by omega
            obtain ⟨sz, hsz⟩ : ∃ sz, sz = S.open_.length := ⟨_, rfl⟩
            have hcs : c = (sz : Int) := by
              have := hcm.out
              rw [List.take_of_length_le (by rw [opnL_length]; exact Nat.le_refl _), many_open (.of HOP.out.ok HOP.out.t)] at this
              omega
            subst hcs
            have HSZ := Lib.hid hsz
            have hat := HAT.out
            have hatlt := hat.call.lt
            have hatbk := (Array.getElem?_eq_some_iff.1 hat.bk).1
            have hatr : CallAt wr cb mb bb S B := ⟨hat.call.keep (HFI.out.block _ hatlt.1 (by omega)) (HFI.out.block _ hatlt.2 (by omega)), (HFI.out.block _ hatbk (by omega)).trans hat.bk, hat.ne⟩
            have HATR := Lib.hid hatr
            have HOWN := Lib.hid (own_any hatr.call HOP.out.ok)
            clear hcm hsz hat hatr hatlt hatbk
            go_wp2_with fail
            refine HOWN.out.mono ?_
            rintro e w5 ⟨v, sb5, rfl, hi5, hfr5, hb5⟩
            obtain ⟨l5, c5, rfl⟩ := hi5.form
            have HKEY : Hid (∀ k o, S.open_[k]? = some o → ∃ g off, l5 = some ⟨g, off, none⟩ ∧ w5.cell? ⟨g, off + k, none⟩ = some (.int .i64 o.1)) := by
              intro k o ho
              have hil := (List.getElem?_eq_some_iff.1 ho).1
              rcases hi5.2.2 with ⟨_, h0, _⟩ | ⟨g, off, cap, cur, hv, hsg, _⟩
              · rw [List.length_map] at h0; omega
              · injection hv with e1 e2 e3
                refine ⟨g, off, e1, ?_⟩
                have hc := RowAt.cell (cap := c5) (n := (S.open_.map (·.1)).length) (cs := intCells (S.open_.map (·.1))) (T := 3) (s := 1) (g := g) (off := off) (sb := sb5) (w := w5) (by rw [← e1]; exact hi5) k (by rw [List.length_map]; omega)
                rw [hc, intCells_get, List.getElem?_map, ho]; rfl
            rw [List.length_map, ← HSZ.out]
            have HA5 := Lib.hid (HA'.out.keep (hb5.block _ HA'.out.lt))
            have HAT5 := Lib.hid (HATR.out.below hb5)
            have HF5 := Lib.hid ((HFR.out.trans (HFI.out.mono (F' := fun k => CFoot cb mb bb k ∨ k = ob) (fun b hb => .inr hb)) (fun b hb => .inl hb)).trans (Fr.ofBelow (F := fun k => CFoot cb mb bb k ∨ k = ob) hb5) (fun b hb => .inl hb))
            clear hi5 hfr5 hb5 HOWN
            go_wp2_with fail
            go_loop [20] (fun vk => ∃ k : Nat, vk = .int .i64 k ∧ k ≤ sz) (fun vk => (sz - intOf vk).toNat)
            case atStart => exact ⟨0, rfl, Nat.zero_le _⟩
            case round =>
              obtain ⟨k, rfl, hk⟩ := hrel
              by_cases hks : k < sz
              · obtain ⟨o, ho⟩ : ∃ o, S.open_[k]? = some o := ⟨_, List.getElem?_eq_getElem (by rw [← HSZ.out]; exact hks)⟩
                obtain ⟨g, off, rfl, c0⟩ := HKEY.out k o ho
                have hom := List.mem_of_getElem? ho
                have hbd := (OpT.of HOP.out.ok HOP.out.t).bd o hom
                obtain ⟨o0, o1⟩ := hbd
                have z0 := HA5.out.cell o.1.toNat (by omega)
                rw [opnL_getD _ (by omega), any_true hom (by omega)] at z0
                have u1 : decide (o.1 < 0) = false := decide_eq_false (by omega)
                have u2 : decide (9 < o.1) = false := decide_eq_false (by omega)
                have i1 : (0 : Int) ≤ (k : Int) := by omega
                have i2 : (k : Int) < (sz : Int) := by omega
                clear ho hom
                go_wp2_with fail
                go_round
                case rel => exact ⟨k + 1, by go_num, by omega⟩
                case measure => simp [intOf]; omega
              · obtain rfl : sz = k := by omega
                by_cases hiM : i = M
                · have u1 : ((i : Int) == (M : Int)) = true := beq_iff_eq.2 (by omega)
                  have HBI := Lib.hid (HBIG.out _ HF5.out)
                  clear hiM
                  go_wp2_with fail
                  refine (lives_any _).mono ?_
                  rintro e w6 ⟨rfl, hb6⟩
                  have HFIN := Lib.hid (btrans HBI.out hb6)
                  clear hb6
                  go_wp2_with fail
                  go_ret
                  exact ⟨rfl, HFIN.out⟩
                · have u1 : ((i : Int) == (M : Int)) = false := beq_eq_false_iff_ne.2 (by omega)
                  have hiM' : i < M := by omega
                  obtain ⟨t, ht⟩ : ∃ t, (stepsOf d)[i]? = some t := ⟨_, List.getElem?_eq_getElem (by rw [HLEN.out]; exact hiM')⟩
                  obtain ⟨g, off, rfl, hcell⟩ := HROW.out i t ht
                  obtain ⟨⟨b0', b1'⟩, hb2, hb3⟩ := steps_bd ht
                  have c0 := hcell _ HF5.out 0 _ rfl
                  have c1 := hcell _ HF5.out 1 _ rfl
                  have c2 := hcell _ HF5.out 2 _ rfl
                  have c3 := hcell _ HF5.out 3 _ rfl
                  have c4 := hcell _ HF5.out 4 _ rfl
                  rw [Nat.add_zero] at c0
                  rw [← Nat.add_assoc] at c1 c2 c3 c4
                  have i1 : (0 : Int) ≤ (i : Int) := by omega
                  have i2 : (i : Int) < (M : Int) := by omega
                  have HD := Lib.hid (does_any HAT5.out HOP.out.ok HBOK.out (now + t.wait) (by omega) t (by omega))
                  have HDT := Lib.hid (do_trk HOP.out (now := now + t.wait) (by omega) B t (by omega) hb3)
                  have HLN := Lib.hid (doL_len HOP.out.ok (now := now + t.wait) (by omega) B t (by omega))
                  have HBO := Lib.hid (HBOK.out.do_ S (now + t.wait) t)
                  unfold stVal at HD
                  obtain ⟨t0, t1⟩ := hb3
                  have HCE := Lib.hid hcell
                  clear hcell ht hb2 hiM
                  go_wp2_with fail
                  refine HD.out.mono ?_
                  rintro e w6 ⟨u, rfl, ⟨g1, ⟨sc, g2, g3⟩, g4⟩⟩
                  have HA6 := Lib.hid (HA5.out.keep (g4.block _ HA5.out.lt (by unfold CFoot; omega)))
                  have HF6 := Lib.hid (HF5.out.trans (g4.mono (F' := fun k => CFoot cb mb bb k ∨ k = ob) (fun b hb => .inl hb)) (fun b hb => .inl hb))
                  have d1 := HCE.out _ HF6.out 1 _ rfl
                  have d2 := HCE.out _ HF6.out 2 _ rfl
                  rw [← Nat.add_assoc] at d1 d2
                  have HG1 := Lib.hid g1
                  have HG2 := Lib.hid g2
                  have HG3 := Lib.hid g3
                  obtain ⟨lu, cu, rfl⟩ := g2.form
                  have hobA := HA5.out.lt
                  clear g1 g2 g3 g4
                  by_cases hd3 : t.do_ < 3
                  · have u3 : decide (t.do_ < 3) = true := decide_eq_true hd3
                    have hset := HA6.out.set t.try_.toNat false
                    have zf := HA6.out.free t.try_.toNat
                    have z0 := HA6.out.cell t.try_.toNat (by omega)
                    have hdt := HDT.out
                    unfold preK at hdt
                    rw [if_pos hd3] at hdt
                    have hfs := HF6.out.trans (Fr.setCell (fun k => CFoot cb mb bb k ∨ k = ob) w6 ⟨ob, t.try_.toNat, none⟩ (.bool false) (.inr rfl)) (fun _ h => .inl h)
                    have hke : ∀ k, k ≠ ob → (w6.setCell ⟨ob, t.try_.toNat, none⟩ (.bool false)).heap[k]? = w6.heap[k]? := fun k hk => Below.heap_setCell w6 ⟨ob, t.try_.toNat, none⟩ _ k hk
                    have hg1 := HG1.out
                    have HNEW : Hid (OInv w4 (w6.setCell ⟨ob, t.try_.toNat, none⟩ (.bool false)) cb mb bb ob (i + 1) (now + t.wait) (.slice lu (S.doL B (now + t.wait) t).length cu)) := by
                      refine ⟨⟨_, _, _, _, ⟨hg1.call.keep (hke _ (by omega)) (hke _ (by omega)), (hke _ (by omega)).trans hg1.bk, hg1.ne⟩, hdt.2, HBO.out, hset, hdt.1, Nat.le_trans HLN.out (by omega), sc, HG2.out.below fun g hg => hke g (by have := (HG3.out g hg).1; omega), fun g hg => ⟨(HG3.out g hg).2, by have := (HG3.out g hg).1; omega⟩⟩, ⟨by omega, by omega⟩, hfs⟩
                    clear hset hdt hfs hke hg1 hd3
                    go_wp2_with fail
                    go_roundw
                    case rel => exact ⟨i + 1, _, rfl, by go_num, by omega, HNEW.out⟩
                    case measure => simp [intOf]; omega
                  · have u3 : decide (t.do_ < 3) = false := decide_eq_false hd3
                    have hdt := HDT.out
                    unfold preK at hdt
                    rw [if_neg hd3] at hdt
                    have HNEW : Hid (OInv w4 w6 cb mb bb ob (i + 1) (now + t.wait) (.slice lu (S.doL B (now + t.wait) t).length cu)) := by
                      refine ⟨⟨_, _, _, _, HG1.out, hdt.2, HBO.out, HA6.out, hdt.1, Nat.le_trans HLN.out (by omega), sc, HG2.out, fun g hg => ⟨(HG3.out g hg).2, by have := (HG3.out g hg).1; omega⟩⟩, ⟨by omega, by omega⟩, HF6.out⟩
                    clear hdt hd3
                    go_wp2_with fail
                    go_roundw
                    case rel => exact ⟨i + 1, _, rfl, by go_num, by omega, HNEW.out⟩
                    case measure => simp [intOf]; omega

end Go.Proofs.Ytipmajcefcfnlaa
