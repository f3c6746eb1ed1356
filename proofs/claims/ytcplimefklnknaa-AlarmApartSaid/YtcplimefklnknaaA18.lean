/- AlarmApart: two that are set at unlike ticks may be set in either row. -/
import Derived.Test.YtcplimefklnknaaA17
namespace Go.Proofs.Ytcplimefklnknaa
open Go.RowKit
attribute [local go_sem ↓] Go.wp_at_zero Go.wp_at_succ

set_option maxHeartbeats 4000000 in
theorem apart_walk {w : World} {A : Option Addr} {n c : Nat} {l : List Int} (h : ArgInts w A n l) (p q r s now : Int) :
    Calls Try.prog 6 #[.slice A n c, .agg #[.int .i64 p, .int .i64 q], .agg #[.int .i64 r, .int .i64 s], .int .i64 now] w fun e w' => e = .returned (.bool true) ∧ Below w.heap.size w w' := by
  have HARG := Lib.hid h
  clear h
  go_enter Try.func6, Try.ntmps6
  go_wp2_with fail
  obtain ⟨W0, hW0⟩ : ∃ W0, W0 = (w.alloc (.cells #[.int .i64 p, .int .i64 q] 39)).alloc (.cells #[.int .i64 r, .int .i64 s] 39) := ⟨_, rfl⟩
  rw [← hW0]
  have hb0 : Below w.heap.size w W0 := by rw [hW0]; exact ((Below.refl _ _).alloc (Nat.le_refl _) _).alloc (by simp) _
  have k1 : W0.heap[w.heap.size]? = some (.cells #[.int .i64 p, .int .i64 q] 39 (0, 0)) := by rw [hW0, heap_alloc_old _ _ (by simp)]; exact heap_alloc_new _ _
  have k2 : W0.heap[w.heap.size + 1]? = some (.cells #[.int .i64 r, .int .i64 s] 39 (0, 0)) := by
    rw [hW0]; have := heap_alloc_new (w.alloc (.cells #[.int .i64 p, .int .i64 q] 39)) (.cells #[.int .i64 r, .int .i64 s] 39); simpa using this
  clear hW0
  have c0 := block_cell k1 0 _ rfl
  have c1 := block_cell k1 1 _ rfl
  have d0 := block_cell k2 0 _ rfl
  have d1 := block_cell k2 1 _ rfl
  have HB0 := Lib.hid hb0
  clear k1 k2 hb0
  refine (acts_any (HARG.out.keep HB0.out)).mono ?_
  rintro e w1 ⟨va, sba, rfl, hra, _, hb1⟩
  have HRA := Lib.hid hra
  have HBB := Lib.hid (btrans HB0.out hb1)
  replace c0 := bkeep hb1 c0
  replace c1 := bkeep hb1 c1
  replace d0 := bkeep hb1 d0
  replace d1 := bkeep hb1 d1
  clear hra hb1 HB0
  have hL := Nat.le_trans (actsL_len l) (show 30 ≤ 1000 by omega)
  have HPT := Lib.hid (Nat.le_trans (played_turn (actsL l)) (actsL_len l))
  obtain ⟨L, hLL⟩ : ∃ L, L = actsL l := ⟨_, rfl⟩
  rw [← hLL] at HRA hL HPT
  clear hLL HARG
  by_cases hpr : p = r
  · have t0 : (p == r) = true := by rw [hpr]; exact beq_self_eq_true _
    clear hpr
    go_wp2_with fail
    refine (lives_any _).mono ?_
    rintro e w9 ⟨rfl, hb9⟩
    have HB9 := Lib.hid (btrans HBB.out hb9)
    clear hb9
    go_wp2_with fail
    go_ret
    exact ⟨rfl, HB9.out⟩
  have t0 : (p == r) = false := beq_eq_false_iff_ne.2 hpr
  by_cases hqs : q = s
  · have t1 : (q == s) = true := by rw [hqs]; exact beq_self_eq_true _
    clear hpr hqs
    go_wp2_with fail
    refine (lives_any _).mono ?_
    rintro e w9 ⟨rfl, hb9⟩
    have HB9 := Lib.hid (btrans HBB.out hb9)
    clear hb9
    go_wp2_with fail
    go_ret
    exact ⟨rfl, HB9.out⟩
  have t1 : (q == s) = false := beq_eq_false_iff_ne.2 hqs
  have HPR := Lib.hid hpr
  have HQS := Lib.hid hqs
  clear hpr hqs
  go_wp2_with fail
  refine (played_in HRA.out hL).mono ?_
  rintro e w2 ⟨pa, ma, rfl, ha, hb2⟩
  have HA := Lib.hid ha
  have HB2 := Lib.hid hb2
  clear ha hb2
  go_wp2_with fail
  refine (played_in (HRA.out.keep HB2.out) hL).mono ?_
  rintro e w3 ⟨pb, mb, rfl, hb, hb3⟩
  have HT := Lib.hid (two_of HB2.out HA.out hb hb3)
  have HK : Hid (∀ W, Below w1.heap.size w1 W → W.cell? ⟨w.heap.size, 0, none⟩ = some (.int .i64 p) ∧ W.cell? ⟨w.heap.size, 1, none⟩ = some (.int .i64 q) ∧ W.cell? ⟨w.heap.size + 1, 0, none⟩ = some (.int .i64 r) ∧ W.cell? ⟨w.heap.size + 1, 1, none⟩ = some (.int .i64 s)) := fun W h => ⟨bkeep h c0, bkeep h c1, bkeep h d0, bkeep h d1⟩
  obtain ⟨st, hst⟩ : ∃ st, st = played L := ⟨_, rfl⟩
  rw [← hst] at HT HPT
  clear hst HA HRA hL hb hb3 HB2 c0 c1 d0 d1
  obtain ⟨e1, e2, e3, e4⟩ := HK.out _ HT.out.below
  have hst := HPT.out
  go_wp2_with fail
  refine (two_set (HT.out) (by show _ ≤ _; (try dsimp only); omega) p q).mono ?_
  rintro e w4 ⟨rfl, ht1⟩
  have HT1 := Lib.hid ht1
  clear ht1 e1 e2 e3 e4
  obtain ⟨e1, e2, e3, e4⟩ := HK.out _ HT1.out.below
  go_wp2_with fail
  refine (two_set (HT1.out) (by show _ ≤ _; (try dsimp only); omega) r s).mono ?_
  rintro e w4 ⟨rfl, ht2⟩
  have HT2 := Lib.hid ht2
  clear ht2 e1 e2 e3 e4
  obtain ⟨e1, e2, e3, e4⟩ := HK.out _ HT2.out.below
  go_wp2_with fail
  refine (two_set (HT2.out.swap) (by show _ ≤ _; (try dsimp only); omega) r s).mono ?_
  rintro e w4 ⟨rfl, ht3⟩
  have HT3 := Lib.hid ht3
  clear ht3 e1 e2 e3 e4
  obtain ⟨e1, e2, e3, e4⟩ := HK.out _ HT3.out.below
  go_wp2_with fail
  refine (two_set (HT3.out) (by show _ ≤ _; (try dsimp only); omega) p q).mono ?_
  rintro e w4 ⟨rfl, ht4⟩
  have HT4 := Lib.hid ht4
  clear ht4 e1 e2 e3 e4
  obtain ⟨e1, e2, e3, e4⟩ := HK.out _ HT4.out.below
  go_wp2_with fail
  have hTA := sets_apart st.2 st.1 p r q s HPR.out HQS.out
  obtain ⟨u, hu⟩ : ∃ u : Nat × List Ent, u = (st.1 + 1 + 1, setE (setE st.2 st.1 p q) (st.1 + 1) r s) := ⟨_, rfl⟩
  obtain ⟨v, hv⟩ : ∃ v : Nat × List Ent, v = (st.1 + 1 + 1, setE (setE st.2 st.1 r s) (st.1 + 1) p q) := ⟨_, rfl⟩
  have hTU : Two w1 w4 pa ma pb mb u v := by rw [hu, hv]; exact HT4.out.swap
  have hu1 : u.1 ≤ 1000000 := by rw [hu]; show st.1 + 1 + 1 ≤ _; omega
  have hv1 : v.1 ≤ 1000000 := by rw [hv]; show st.1 + 1 + 1 ≤ _; omega
  have huv : u.2.map tid = v.2.map tid := by rw [hu, hv]; exact hTA
  clear hu hv hTA HPT hst HPR HQS HT HT1 HT2 HT3 HT4 HK
  have HUV := Lib.hid huv
  have HTU := Lib.hid hTU
  clear huv hTU
  refine (two_due HTU.out.nil hu1 now).mono ?_
  rintro e w5 ⟨v1, rfl, _, hd⟩
  have HD := Lib.hid hd
  clear hd
  go_wp2_with fail
  refine (two_due HD.out.swap hv1 now).mono ?_
  rintro e w6 ⟨v2, rfl, hd1, hd2⟩
  have HD1 := Lib.hid hd1
  have HD2 := Lib.hid hd2
  clear hd1 hd2
  go_wp2_with fail
  obtain ⟨⟨_, _, s1, _, _, _, _, _, hi1, _⟩, _⟩ := HD1.out
  obtain ⟨⟨_, _, s2, _, _, _, _, _, hi2, _⟩, _⟩ := HD2.out
  refine (same_any hi1 hi2).mono ?_
  rintro e w7 ⟨rfl, hb7⟩
  rw [due_of_tid HUV.out now, decide_eq_true rfl]
  have HE := Lib.hid ((HD2.out.two.swap).keep hb7)
  clear hi1 hi2 hb7
  go_wp2_with fail
  obtain ⟨⟨sa, sb, h1, h2, _⟩, _⟩ := HE.out
  have H2 := Lib.hid h2
  refine (len_any h1).mono ?_
  rintro e w8 ⟨rfl, rfl⟩
  clear h1 h2
  go_wp2_with fail
  refine (len_any H2.out).mono ?_
  rintro e w8 ⟨rfl, rfl⟩
  dsimp only
  rw [left_of_tid HUV.out now]
  go_wp2_with fail
  refine (lives_any _).mono ?_
  rintro e w9 ⟨rfl, hb9⟩
  have HB9 := Lib.hid (btrans (btrans HBB.out HE.out.below) hb9)
  clear hb9
  go_wp2_with fail
  go_ret
  exact ⟨rfl, HB9.out⟩

end Go.Proofs.Ytcplimefklnknaa
