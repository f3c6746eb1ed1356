/- CtxPurse. -/
import Derived.Test.YtjollcacgnfabaaDoorC17
import Derived.Test.YtjollcacgnfabaaDoorDealR
namespace Go.Proofs.YtjollcacgnfabaaDoor
open Go.RowKit
attribute [local go_sem ↓] Go.wp_at_zero Go.wp_at_succ

theorem RsInv.keep {w wr w' : World} {n : Int} {k i : Nat} {v : Value} (h : RsInv w wr n k i v) (hb : Below wr.heap.size wr w') : RsInv w w' n k i v := by
  obtain ⟨⟨sb, h1, h2⟩, h3⟩ := h
  exact ⟨⟨sb, h1.keep hb, h2⟩, btrans h3 hb⟩

set_option maxRecDepth 8000 in
set_option maxHeartbeats 4000000 in
theorem purse_walk {w : World} {A : Option Addr} {k0 : Nat} {l : List Int} (h : ArgInts w A k0 l) (cap : Nat) (n kids : Int) (hn : -9223372036854775808 ≤ n ∧ n ≤ 9223372036854775807) (hkk : -9223372036854775808 ≤ kids ∧ kids ≤ 9223372036854775807) (hL : MaxLenAt w) :
    Calls Tryd.prog 8 #[.slice A k0 cap, .int .i64 n, .int .i64 kids] w fun e w' => e = .returned (.bool true) ∧ Below w.heap.size w w' := by
  have HAT := Lib.hid (attempt_any h cap n hn)
  have HIN := Lib.hid (attOf_in l n)
  obtain ⟨c, hc⟩ : ∃ c, c = attOf l n := ⟨_, rfl⟩
  rw [← hc] at HAT HIN
  obtain ⟨q, s, tr, b1, b2, d, u, v, z⟩ := c
  dsimp only [cxV, cxCells] at HAT HIN
  clear hc
  have HK6 := Lib.hid (fun w => around_any kids 6 w hkk.1 hkk.2 (by decide) (by decide))
  obtain ⟨x0, x1⟩ := around_bd kids (show (1 : Int) ≤ 6 by decide)
  obtain ⟨x, hx⟩ : ∃ x, x = around kids 6 := ⟨_, rfl⟩
  rw [← hx] at HK6 x0 x1
  obtain ⟨m, hm⟩ : ∃ m : Nat, (m : Int) = 1 + x := ⟨(1 + x).toNat, by omega⟩
  have hm1 : 1 ≤ m := by omega
  have hm6 : m ≤ 6 := by omega
  have hu0 : 0 ≤ u := HIN.out.2.2.2.2.2.1
  have hu1 : u ≤ 2147483647 := by have := HIN.out.2.2.2.2.2.2; omega
  obtain ⟨d1, hd1⟩ : ∃ d1, d1 = d - 1 := ⟨_, rfl⟩
  have HKD : Hid (∀ i : Nat, i ≤ 6 → ∃ ks : ByteArray, ∀ w, Calls Tryd.prog 23 #[cxV ⟨q, s, tr, b1, b2, d, u, v, z⟩, .int .i64 i, .int .i64 m, .int .i64 1] w fun e w' => e = .returned (cxV ⟨q, ks, 0, b1, b2, d1, shareAt u m i, v, z⟩) ∧ Below w.heap.size w w') := fun i hi => ⟨_, fun w => by
    have h := kid_any ⟨q, s, tr, b1, b2, d, u, v, z⟩ i m 1 (by have := HIN.out; dsimp only; omega) (by have := HIN.out; dsimp only; omega) (by omega) (by omega) (by have := HIN.out; dsimp only; omega) (by have := HIN.out; dsimp only; omega) (by omega) w
    rw [hd1]
    exact h⟩
  have hfd : ∀ (ks : ByteArray) (p : Int) (w : World), (Instr.field 24 (.agg #[.int .i64 q, .string ks, .int .i64 0, .bool b1, .bool b2, .int .i64 d1, .int .i64 p, .int .i64 v, .int .i64 z]) 6).run Tryd.prog w = .ok (.int .i64 p) w := fun _ _ _ => by kernel_rfl
  have HSA : Hid (∀ i : Nat, i < m → shareAt u m i = share u m i) := fun i hi => by unfold shareAt; rw [if_pos (by omega)]; rfl
  have HSM : Hid (shareAt u m m = 0) := by show shareAt u m m = 0; unfold shareAt; rw [if_neg (by omega)]
  have HSPL := Lib.hid (fun w => split_all u m w hu0 hu1 (by omega))
  have HLV := Lib.hid (fun w' (hb : Below w.heap.size w w') => lives_any w' (hL.below hL.lt hb))
  have g1 : IntKind.i64.wrap (1 + x) = 1 + x := IntWalk.i64_in _ (by omega)
  dsimp only [cxV, cxCells] at HKD
  have HMX := Lib.hid hm
  clear hx hd1 HIN hL h hn hkk hm
  go_enter Tryd.func8, Tryd.ntmps8
  go_wp2_with fail
  refine HAT.out.mono ?_
  rintro e w1 ⟨rfl, hb1⟩
  have S1 : Hid (St w w1 []) := ⟨(fun p hp => by cases hp), hb1⟩
  have S2 := Lib.hid (S1.out.push ⟨q, s, tr, b1, b2, d, u, v, z⟩)
  dsimp only [cxCells] at S2
  clear hb1 S1
  go_wp2_with fail
  refine (HK6.out _).mono ?_
  rintro e wz ⟨rfl, rfl⟩
  go_wp2_with fail
  obtain ⟨W2, hW2⟩ : ∃ W2, w1.alloc (.cells #[.int .i64 q, .string s, .int .i64 tr, .bool b1, .bool b2, .int .i64 d, .int .i64 u, .int .i64 v, .int .i64 z] 24) = W2 := ⟨_, rfl⟩
  rw [hW2] at S2 ⊢
  clear hW2
  rw [← HMX.out]
  go_loopw [9, 10] (fun va vi wr => ∃ i : Nat, vi = .int .i64 i ∧ i ≤ m ∧ (∃ la lc, va = .slice la i lc) ∧ RsInv W2 wr u m i va) (fun _ vi _ => (m - intOf vi).toNat)
  case atStart => exact ⟨0, rfl, Nat.zero_le _, ⟨_, _, rfl⟩, ⟨⟨none, RowAt.nil _ _ _, fun g hg => by cases hg⟩, Below.refl _ _⟩⟩
  case round =>
    obtain ⟨i, rfl, hi, ⟨la, lc, rfl⟩, hinv⟩ := hrel
    have HI := Lib.hid hinv
    have S3 := Lib.hid (S2.out.call hinv.below)
    have m := S3.out.boxes (w1.heap.size, ⟨q, s, tr, b1, b2, d, u, v, z⟩) (by simp)
    dsimp only [cxCells] at m
    have r0 := block_cell m 0 _ rfl
    have r1 := block_cell m 1 _ rfl
    have r2 := block_cell m 2 _ rfl
    have r3 := block_cell m 3 _ rfl
    have r4 := block_cell m 4 _ rfl
    have r5 := block_cell m 5 _ rfl
    have r6 := block_cell m 6 _ rfl
    have r7 := block_cell m 7 _ rfl
    have r8 := block_cell m 8 _ rfl
    clear m
    by_cases hik : i < m
    · have t1 : ((i : Int) < (m : Int)) := by omega
      obtain ⟨ks, hk⟩ := HKD.out i (by omega)
      rw [HSA.out i hik] at hk
      have HPU := Lib.hid (fun w3 (hb : Below wr.heap.size wr w3) => (HI.out.keep hb).push hik (by omega) (rfl : share u m i = share u m i))
      obtain ⟨y, hy⟩ : ∃ y, y = share u m i := ⟨_, rfl⟩
      rw [← hy] at hk HPU
      have HKK := Lib.hid hk
      clear hinv hk hy
      go_wp2_with fail
      refine (HKK.out _).mono ?_
      rintro e w3 ⟨rfl, hb3⟩
      obtain ⟨la2, lc2, w4, happ, h2⟩ := HPU.out _ hb3
      have H2 := Lib.hid h2
      clear h2 hb3
      go_wp2_with (at_builtin; refine wpList_run (by rfl) (exec_append _ _ _ _ (by rfl) _ _ (by rfl) (by rfl) happ) ?_)
      go_roundw
      case rel => exact ⟨i + 1, by go_num, by omega, ⟨_, _, rfl⟩, H2.out⟩
      case measure => simp [intOf]; omega
    · obtain rfl : i = m := by omega
      have t1 : ¬ ((i : Int) < (i : Int)) := by omega
      clear hinv
      go_wp2_with fail
      refine (HSPL.out _).mono ?_
      rintro e w5 ⟨v2, sb2, rfl, hv2, hg2, hb5⟩
      have S4 := Lib.hid (S3.out.call hb5)
      obtain ⟨⟨sb, r1, r2⟩, _⟩ := HI.out
      rw [List.take_of_length_le (by rw [splitL_length]; omega)] at r1
      have r5 := r1.keep hb5
      have HR5 := Lib.hid r5
      have HV2 := Lib.hid hv2
      obtain ⟨lb, lcb, rfl⟩ := RowAt.form hv2
      rw [splitL_length] at HV2 ⊢
      rcases r5.2.2 with ⟨_, h0', _⟩ | ⟨g, off, cap', cur, hvv, hsg, hh, _, _, _, htt⟩
      · rw [splitL_length] at h0'; omega
      injection hvv with ex1 ex2 ex3
      subst ex1
      have HAC : Hid (∀ j, j < i → w5.cell? ⟨g, off + j, none⟩ = some (.int .i64 (share u i j))) := fun j hj => by
        have cz := row_cell hh htt j (by rw [splitL_length]; omega)
        rw [intCells_get, splitL_get u i j hj] at cz
        exact cz
      have c0 : w5.cell? ⟨g, off, none⟩ = some (.int .i64 (share u i 0)) := HAC.out 0 (by omega)
      have HBD := Lib.hid (fun j => share_bd u i j hu0 hu1 hm1)
      have HFA := Lib.hid (share_fall u i)
      obtain ⟨f0, f1, f2, f3⟩ := HBD.out 0
      obtain ⟨fst, hf⟩ : ∃ fst, fst = share u i 0 := ⟨_, rfl⟩
      have HFS := Lib.hid hf
      rw [← hf] at c0 f0 f3
      have i0 : (0 : Int) < (i : Int) := by omega
      clear r0 r1 r2 r3 r4 r5 r6 r7 r8
      clear hf r1 r2 r5 hv2 hg2 hb5 hh htt hsg ex2 ex3 f1 f2 S3
      go_wp2_with fail
      go_loopw [12, 13] (fun vlo vi wr => ∃ j : Nat, vi = .int .i64 j ∧ j ≤ i ∧ vlo = .int .i64 (share u i (j - 1)) ∧ Below w5.heap.size w5 wr) (fun _ vi _ => (i - intOf vi).toNat)
      case atStart => exact ⟨0, rfl, Nat.zero_le _, by rw [HFS.out], Below.refl _ _⟩
      case round =>
        obtain ⟨j, rfl, hj, rfl, hbr⟩ := hrel
        by_cases hji : j < i
        · have t2 : ((j : Int) < (i : Int)) := by omega
          have cj := bkeep hbr (HAC.out j hji)
          have cz := bkeep hbr c0
          obtain ⟨y0, y1, y2, y3⟩ := HBD.out j
          obtain ⟨z0, z1, z2, z3⟩ := HBD.out (j - 1)
          have hle : share u i j ≤ share u i (j - 1) := by
            by_cases e : j = 0
            · subst e; exact Int.le_refl _
            · have := HFA.out (j - 1)
              rw [show j - 1 + 1 = j by omega] at this
              exact this
          rw [← HFS.out] at y1
          obtain ⟨lo, hlo⟩ : ∃ lo, lo = share u i (j - 1) := ⟨_, rfl⟩
          have HY : Hid (share u i (j + 1 - 1) = share u i j) := rfl
          obtain ⟨y, hy⟩ : ∃ y, y = share u i j := ⟨_, rfl⟩
          rw [← hlo] at hle z0 z3 ⊢
          rw [← hy] at cj hle y0 y1 y3 HY
          have hmin : min lo y = y := Int.min_eq_right hle
          have gs : IntKind.i64.wrap (y - y) = y - y := IntWalk.i64_in _ (by omega)
          have ny : ¬ fst < y := by omega
          have j0 : (0 : Int) ≤ (j : Int) := by omega
          have HBR := Lib.hid hbr
          clear hlo hy hbr z1 z2 y2 c0 z0 z3 hle
          go_wp2_with fail
          go_quiet (fail)
          go_wp2_with fail
          go_roundw
          case rel => exact ⟨j + 1, by go_num, by omega, by rw [HY.out], HBR.out.trans (below_drewN (Below.refl _ _))⟩
          case measure => simp [intOf]; omega
        · obtain rfl : j = i := by omega
          have t2 : ¬ ((j : Int) < (j : Int)) := by omega
          have S5 := Lib.hid (S4.out.call hbr)
          have HR6 := Lib.hid (HR5.out.keep hbr)
          have HV6 := Lib.hid (HV2.out.keep hbr)
          have m := S5.out.boxes (w1.heap.size, ⟨q, s, tr, b1, b2, d, u, v, z⟩) (by simp)
          dsimp only [cxCells] at m
          have r0 := block_cell m 0 _ rfl
          have r1 := block_cell m 1 _ rfl
          have r2 := block_cell m 2 _ rfl
          have r3 := block_cell m 3 _ rfl
          have r4 := block_cell m 4 _ rfl
          have r5 := block_cell m 5 _ rfl
          have r6 := block_cell m 6 _ rfl
          have r7 := block_cell m 7 _ rfl
          have r8 := block_cell m 8 _ rfl
          clear m
          obtain ⟨ks, hk⟩ := HKD.out j (by omega)
          rw [HSM.out] at hk
          have HKK := Lib.hid hk
          have HSUM : Hid (∀ w', Below wr.heap.size wr w' → Calls Tryd.prog 29 #[.slice (some ⟨g, off, none⟩) j lc] w' fun e w'' => e = .returned (.int .i64 u) ∧ w'' = w') := fun w' hb => sum_any (HR6.out.keep hb) hu0 hu1 hm1 (by omega)
          have HSAME : Hid (∀ w', Below wr.heap.size wr w' → Calls Tryd.prog 30 #[.slice (some ⟨g, off, none⟩) j lc, .slice lb j lcb] w' fun e w'' => e = .returned (.bool true) ∧ Below w'.heap.size w' w'') := fun w' hb => by
            have h := same_any (HR6.out.keep hb) (HV6.out.keep hb)
            rw [decide_eq_true rfl] at h
            exact h
          clear hbr c0 hk
          go_wp2_with fail
          have HSX : Hid (∀ w', St w w' [(w1.heap.size, ⟨q, s, tr, b1, b2, d, u, v, z⟩)] → (w'.cell? ⟨w1.heap.size, 0, none⟩ = some (.int .i64 q) ∧ w'.cell? ⟨w1.heap.size, 1, none⟩ = some (.string s) ∧ w'.cell? ⟨w1.heap.size, 2, none⟩ = some (.int .i64 tr) ∧ w'.cell? ⟨w1.heap.size, 3, none⟩ = some (.bool b1) ∧ w'.cell? ⟨w1.heap.size, 4, none⟩ = some (.bool b2) ∧ w'.cell? ⟨w1.heap.size, 5, none⟩ = some (.int .i64 d) ∧ w'.cell? ⟨w1.heap.size, 6, none⟩ = some (.int .i64 u) ∧ w'.cell? ⟨w1.heap.size, 7, none⟩ = some (.int .i64 v) ∧ w'.cell? ⟨w1.heap.size, 8, none⟩ = some (.int .i64 z))) := fun w' h => nine (h.boxes (w1.heap.size, ⟨q, s, tr, b1, b2, d, u, v, z⟩) (by simp))
          refine wp_region_held_drew (S := fun w' => (w'.cell? ⟨w1.heap.size, 0, none⟩ = some (.int .i64 q) ∧ w'.cell? ⟨w1.heap.size, 1, none⟩ = some (.string s) ∧ w'.cell? ⟨w1.heap.size, 2, none⟩ = some (.int .i64 tr) ∧ w'.cell? ⟨w1.heap.size, 3, none⟩ = some (.bool b1) ∧ w'.cell? ⟨w1.heap.size, 4, none⟩ = some (.bool b2) ∧ w'.cell? ⟨w1.heap.size, 5, none⟩ = some (.int .i64 d) ∧ w'.cell? ⟨w1.heap.size, 6, none⟩ = some (.int .i64 u) ∧ w'.cell? ⟨w1.heap.size, 7, none⟩ = some (.int .i64 v) ∧ w'.cell? ⟨w1.heap.size, 8, none⟩ = some (.int .i64 z))) (by kernel_rfl) (HSX.out _ (S5.out.call (Below.refl _ _).drew)) (fun hHeld => ?_)
          refine wpAnyH_take (i := 0) (v := ?_) rfl (by kernel_rfl) (by kernel_rfl) (by kernel_rfl) (fun _ _ _ h => h) (Or.inl ⟨by kernel_rfl, ?_⟩) (by assumption) ?_
          rotate_left
          · (intro w hSw; (try dsimp only at hSw); go_simp; (try rw [if_neg (by (try simp only [ByteArray.size_append]); omega)]); (try with_reducible rfl))
          try simp only [Act.put]
          refine wpAnyH_take (i := 2) (v := ?_) rfl (by kernel_rfl) (by kernel_rfl) (by kernel_rfl) (fun _ _ _ h => h) (Or.inl ⟨by kernel_rfl, ?_⟩) (by assumption) ?_
          rotate_left
          · (intro w hSw; (try dsimp only at hSw); go_simp; (try rw [if_neg (by (try simp only [ByteArray.size_append]); omega)]); (try with_reducible rfl))
          try simp only [Act.put]
          refine wpAnyH_take (i := 3) (v := ?_) rfl (by kernel_rfl) (by kernel_rfl) (by kernel_rfl) (fun _ _ _ h => h) (Or.inl ⟨by kernel_rfl, ?_⟩) (by assumption) ?_
          rotate_left
          · (intro w hSw; (try dsimp only at hSw); go_simp; (try rw [if_neg (by (try simp only [ByteArray.size_append]); omega)]); (try with_reducible rfl))
          try simp only [Act.put]
          refine wpAnyH_ready (rs := [1]) (by kernel_rfl) (by simp) ?_
          refine AllReadyH.cons rfl (fun K hK => ?_) AllReadyH.nil
          go_simp
          try rw [if_neg (by assumption)]
          refine (HSUM.out _ (Below.refl _ _).drew).mono ?_
          rintro e wy ⟨rfl, rfl⟩
          refine hK.out _ _ hHeld (fun hHeld => ?_)
          clear hK K
          try simp only [Act.put]
          refine wpAnyH_take (i := 4) (v := ?_) rfl (by kernel_rfl) (by kernel_rfl) (by kernel_rfl) (fun _ _ _ h => h) (Or.inl ⟨by kernel_rfl, ?_⟩) (by assumption) ?_
          rotate_left
          · (intro w hSw; (try dsimp only at hSw); go_simp; (try rw [if_neg (by (try simp only [ByteArray.size_append]); omega)]); (try with_reducible rfl))
          try simp only [Act.put]
          refine wpAnyH_take (i := 5) (v := ?_) rfl (by kernel_rfl) (by kernel_rfl) (by kernel_rfl) (fun _ _ _ h => h) (Or.inl ⟨by kernel_rfl, ?_⟩) (by assumption) ?_
          rotate_left
          · (intro w hSw; (try dsimp only at hSw); go_simp; (try rw [if_neg (by (try simp only [ByteArray.size_append]); omega)]); (try with_reducible rfl))
          try simp only [Act.put]
          refine wpAnyH_take (i := 6) (v := ?_) rfl (by kernel_rfl) (by kernel_rfl) (by kernel_rfl) (fun _ _ _ h => h) (Or.inl ⟨by kernel_rfl, ?_⟩) (by assumption) ?_
          rotate_left
          · (intro w hSw; (try dsimp only at hSw); go_simp; (try rw [if_neg (by (try simp only [ByteArray.size_append]); omega)]); (try with_reducible rfl))
          try simp only [Act.put]
          refine wpAnyH_take (i := 7) (v := ?_) rfl (by kernel_rfl) (by kernel_rfl) (by kernel_rfl) (fun _ _ _ h => h) (Or.inl ⟨by kernel_rfl, ?_⟩) (by assumption) ?_
          rotate_left
          · (intro w hSw; (try dsimp only at hSw); go_simp; (try rw [if_neg (by (try simp only [ByteArray.size_append]); omega)]); (try with_reducible rfl))
          try simp only [Act.put]
          refine wpAnyH_ready (rs := [8]) (by kernel_rfl) (by simp) ?_
          refine AllReadyH.cons rfl (fun K hK => ?_) AllReadyH.nil
          go_simp
          try rw [if_neg (by assumption)]
          refine (HSAME.out _ (Below.refl _ _).drew).mono ?_
          rintro e wa ⟨rfl, hb⟩
          replace hb := bdrew hb
          have S6 := Lib.hid (S5.out.call hb)
          refine hK.out _ _ (HSX.out _ S6.out) (fun hHeld => ?_)
          clear hK K hb S5
          try simp only [Act.put]
          refine wpAnyH_take (i := 9) (v := ?_) rfl (by kernel_rfl) (by kernel_rfl) (by kernel_rfl) (fun _ _ _ h => h) (Or.inl ⟨by kernel_rfl, ?_⟩) (by assumption) ?_
          rotate_left
          · (intro w hSw; (try dsimp only at hSw); go_simp; (try rw [if_neg (by (try simp only [ByteArray.size_append]); omega)]); (try with_reducible rfl))
          try simp only [Act.put]
          refine wpAnyH_take (i := 10) (v := ?_) rfl (by kernel_rfl) (by kernel_rfl) (by kernel_rfl) (fun _ _ _ h => h) (Or.inl ⟨by kernel_rfl, ?_⟩) (by assumption) ?_
          rotate_left
          · (intro w hSw; (try dsimp only at hSw); go_simp; (try rw [if_neg (by (try simp only [ByteArray.size_append]); omega)]); (try with_reducible rfl))
          try simp only [Act.put]
          refine wpAnyH_take (i := 11) (v := ?_) rfl (by kernel_rfl) (by kernel_rfl) (by kernel_rfl) (fun _ _ _ h => h) (Or.inl ⟨by kernel_rfl, ?_⟩) (by assumption) ?_
          rotate_left
          · (intro w hSw; (try dsimp only at hSw); go_simp; (try rw [if_neg (by (try simp only [ByteArray.size_append]); omega)]); (try with_reducible rfl))
          try simp only [Act.put]
          refine wpAnyH_take (i := 12) (v := ?_) rfl (by kernel_rfl) (by kernel_rfl) (by kernel_rfl) (fun _ _ _ h => h) (Or.inl ⟨by kernel_rfl, ?_⟩) (by assumption) ?_
          rotate_left
          · (intro w hSw; (try dsimp only at hSw); go_simp; (try rw [if_neg (by (try simp only [ByteArray.size_append]); omega)]); (try with_reducible rfl))
          try simp only [Act.put]
          refine wpAnyH_take (i := 13) (v := ?_) rfl (by kernel_rfl) (by kernel_rfl) (by kernel_rfl) (fun _ _ _ h => h) (Or.inl ⟨by kernel_rfl, ?_⟩) (by assumption) ?_
          rotate_left
          · (intro w hSw; (try dsimp only at hSw); go_simp; (try rw [if_neg (by (try simp only [ByteArray.size_append]); omega)]); (try with_reducible rfl))
          try simp only [Act.put]
          refine wpAnyH_ready (rs := [14]) (by kernel_rfl) (by simp) ?_
          refine AllReadyH.cons rfl (fun K hK => ?_) AllReadyH.nil
          go_simp
          try rw [if_neg (by assumption)]
          refine (HKK.out _).mono ?_
          rintro e wb ⟨rfl, hb⟩
          have S7 := Lib.hid (S6.out.call hb)
          refine hK.out _ _ (HSX.out _ S7.out) (fun hHeld => ?_)
          clear hK K hb S6
          try simp only [Act.put]
          refine wpAnyH_take (i := 15) (v := ?_) rfl (by kernel_rfl) (by kernel_rfl) (by kernel_rfl) (fun _ _ _ h => h) (Or.inl ⟨by kernel_rfl, ?_⟩) (by assumption) ?_
          rotate_left
          · (intro w hSw; (try dsimp only at hSw); go_simp; (try rw [if_neg (by (try simp only [ByteArray.size_append]); omega)]); (try with_reducible rfl))
          try simp only [Act.put]
          refine wpAnyH_take (i := 16) (v := ?_) rfl (by kernel_rfl) (by kernel_rfl) (by kernel_rfl) (fun _ _ _ h => h) (Or.inl ⟨by kernel_rfl, ?_⟩) (by assumption) ?_
          rotate_left
          · (intro w hSw; (try dsimp only at hSw); go_simp; (try rw [if_neg (by (try simp only [ByteArray.size_append]); omega)]); (try with_reducible rfl))
          try simp only [Act.put]
          refine wpAnyH_take (i := 17) (v := ?_) rfl (by kernel_rfl) (by kernel_rfl) (by kernel_rfl) (fun _ _ _ h => h) (Or.inl ⟨by kernel_rfl, ?_⟩) (by assumption) ?_
          rotate_left
          · (intro w hSw; (try dsimp only at hSw); go_simp; (try rw [if_neg (by (try simp only [ByteArray.size_append]); omega)]); (try with_reducible rfl))
          try simp only [Act.put]
          refine wpAnyH_take (i := 18) (v := ?_) rfl (by kernel_rfl) (by kernel_rfl) (by kernel_rfl) (fun _ _ _ h => h) (Or.inl ⟨by kernel_rfl, ?_⟩) (by assumption) ?_
          rotate_left
          · (intro w hSw; (try dsimp only at hSw); go_simp; (try rw [if_neg (by (try simp only [ByteArray.size_append]); omega)]); (try with_reducible rfl))
          try simp only [Act.put]
          refine wpAnyH_ready (rs := [19]) (by kernel_rfl) (by simp) ?_
          refine AllReadyH.cons rfl (fun K hK => ?_) AllReadyH.nil
          go_simp
          try rw [if_neg (by assumption)]
          refine (HLV.out _ S7.out.below).mono ?_
          rintro e wd ⟨rfl, hb⟩
          have S8 := Lib.hid (S7.out.call hb)
          refine hK.out _ _ (HSX.out _ S8.out) (fun hHeld => ?_)
          clear hK K hb S7
          try simp only [Act.put]
          refine wpAnyH_take (i := 20) (v := ?_) rfl (by kernel_rfl) (by kernel_rfl) (by kernel_rfl) (fun _ _ _ h => h) (Or.inl ⟨by kernel_rfl, ?_⟩) (by assumption) ?_
          rotate_left
          · (intro w hSw; (try dsimp only at hSw); go_simp; (try rw [if_neg (by (try simp only [ByteArray.size_append]); omega)]); (try with_reducible rfl))
          try simp only [Act.put]
          refine wpAnyH_ready (rs := [21]) (by kernel_rfl) (by simp) ?_
          refine AllReadyH.cons rfl (fun K hK => ?_) AllReadyH.nil
          go_simp
          refine hK.out _ _ ((HSX.out _ S8.out)) (fun hHeld => ?_)
          clear hK K
          try simp only [Act.put]
          refine wpAnyH_done (by kernel_rfl) ?_ _
          try simp only [Act.put]
          have HF := Lib.hid S8.out.below
          clear S8 HSX hHeld
          go_wp2_with fail
          go_ret
          exact ⟨rfl, HF.out⟩

end Go.Proofs.YtjollcacgnfabaaDoor
