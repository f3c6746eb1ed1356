/- attempt; lives. -/
import Derived.Test.YtjollcacgnfabaaDoorC13
namespace Go.Proofs.YtjollcacgnfabaaDoor
open Go.RowKit
attribute [local go_sem ↓] Go.wp_at_zero Go.wp_at_succ

def attOf (l : List Int) (n : Int) : Cx := if (ctxOf l).try_ = 0 then { ctxOf l with try_ := 1 + around n 8 } else ctxOf l

theorem attOf_in (l : List Int) (n : Int) : (attOf l n).call.size ≤ 29 ∧ 1 ≤ (attOf l n).try_ ∧ (attOf l n).try_ ≤ 8 ∧ -1 ≤ (attOf l n).dl ∧ (attOf l n).dl ≤ 219 ∧ 0 ≤ (attOf l n).purse ∧ (attOf l n).purse ≤ 19 := by
  obtain ⟨a1, a2, a3, a4, a5, a6, a7⟩ := ctxOf_in l
  obtain ⟨r0, r1⟩ := around_bd n (show (1 : Int) ≤ 8 by decide)
  unfold attOf
  split
  · refine ⟨a1, ?_, ?_, ?_, a5, a6, a7⟩
    · show 1 ≤ 1 + around n 8; omega
    · show 1 + around n 8 ≤ 8; omega
    · show -1 ≤ (ctxOf l).dl; omega
  · exact ⟨a1, by omega, by omega, by omega, a5, a6, a7⟩

set_option maxRecDepth 8000 in
set_option maxHeartbeats 1000000 in
theorem attempt_any {w : World} {A : Option Addr} {k : Nat} {l : List Int} (h : ArgInts w A k l) (cap : Nat) (n : Int) (hn : -9223372036854775808 ≤ n ∧ n ≤ 9223372036854775807) :
    Calls Tryd.prog 21 #[.slice A k cap, .int .i64 n] w fun e w' => e = .returned (cxV (attOf l n)) ∧ Below w.heap.size w w' := by
  obtain ⟨W, hW⟩ : ∃ W, w.alloc (.cells #[.int .i64 0, .string ⟨#[]⟩, .int .i64 0, .bool false, .bool false, .int .i64 0, .int .i64 0, .int .i64 0, .int .i64 0] 24) = W := ⟨_, rfl⟩
  have n0 := heap_alloc_new w (.cells #[.int .i64 0, .string ⟨#[]⟩, .int .i64 0, .bool false, .bool false, .int .i64 0, .int .i64 0, .int .i64 0, .int .i64 0] 24)
  have hb : Below w.heap.size w W := by rw [← hW]; exact (Below.refl _ _).alloc (Nat.le_refl _) _
  rw [hW] at n0
  have HC := Lib.hid (ctx_any (h.keep hb) cap)
  have HR := Lib.hid (fun w => around_any n 8 w hn.1 hn.2 (by decide) (by decide))
  obtain ⟨r0, r1⟩ := around_bd n (show (1 : Int) ≤ 8 by decide)
  have HE : Hid (attOf l n = if (ctxOf l).try_ = 0 then { ctxOf l with try_ := 1 + around n 8 } else ctxOf l) := rfl
  obtain ⟨c, hc⟩ : ∃ c, c = ctxOf l := ⟨_, rfl⟩
  obtain ⟨x, hx⟩ : ∃ x, x = around n 8 := ⟨_, rfl⟩
  obtain ⟨y, hy⟩ : ∃ y, y = attOf l n := ⟨_, rfl⟩
  rw [← hc] at HC HE
  rw [← hx] at HR HE r0 r1
  rw [← hy] at HE ⊢
  have HB := Lib.hid hb
  have HN := Lib.hid n0
  clear hc hx hy hb n0 h hn
  obtain ⟨q, s, t, a, bb, d, u, v, z⟩ := c
  dsimp only [cxV, cxCells] at HC HE
  go_enter Tryd.func21, Tryd.ntmps21
  go_wp2_with fail
  refine HC.out.mono ?_
  rintro e w1 ⟨rfl, hb1⟩
  have m0 := (hb1.block w.heap.size (Array.getElem?_eq_some_iff.1 HN.out).1).trans HN.out
  have hlt := (Array.getElem?_eq_some_iff.1 m0).1
  have HB1 := Lib.hid (btrans HB.out hb1)
  clear hb1 hW
  by_cases h0 : t = 0
  · have HE2 : Hid (y = ⟨q, s, 1 + x, a, bb, d, u, v, z⟩) := HE.out.trans (if_pos h0)
    subst h0
    have g1 : IntKind.i64.wrap (1 + x) = 1 + x := IntWalk.i64_in _ (by omega)
    obtain ⟨W5, hW5, hu, u1⟩ := copy_out ⟨q, s, (1 + x), a, bb, d, u, v, z⟩ m0 HB1.out (Nat.le_refl _)
    simp only [cxCells, setsFrom, Nat.reduceAdd] at hW5 u1
    have hlt5 := (Array.getElem?_eq_some_iff.1 u1).1
    have u2 := (Below.heap_alloc W5 (.cells #[.int .i64 q, .string s, .int .i64 (1 + x), .bool a, .bool bb, .int .i64 d, .int .i64 u, .int .i64 v, .int .i64 z] 24) w.heap.size hlt5).trans u1
    have hu2 := hu.alloc (Nat.le_of_lt hlt5) (.cells #[.int .i64 q, .string s, .int .i64 (1 + x), .bool a, .bool bb, .int .i64 d, .int .i64 u, .int .i64 v, .int .i64 z] 24)
    have HU := Lib.hid hu2
    have c0 := block_cell m0 0 _ rfl
    have c1 := block_cell m0 1 _ rfl
    have c2 := block_cell m0 2 _ rfl
    have c3 := block_cell m0 3 _ rfl
    have c4 := block_cell m0 4 _ rfl
    have c5 := block_cell m0 5 _ rfl
    have c6 := block_cell m0 6 _ rfl
    have c7 := block_cell m0 7 _ rfl
    have c8 := block_cell m0 8 _ rfl
    have g0 := block_free m0 0
    have g1 := block_free m0 1
    have g2 := block_free m0 2
    have g3 := block_free m0 3
    have g4 := block_free m0 4
    have g5 := block_free m0 5
    have g6 := block_free m0 6
    have g7 := block_free m0 7
    have g8 := block_free m0 8
    have f0 := block_cell u2 0 _ rfl
    have f1 := block_cell u2 1 _ rfl
    have f2 := block_cell u2 2 _ rfl
    have f3 := block_cell u2 3 _ rfl
    have f4 := block_cell u2 4 _ rfl
    have f5 := block_cell u2 5 _ rfl
    have f6 := block_cell u2 6 _ rfl
    have f7 := block_cell u2 7 _ rfl
    have f8 := block_cell u2 8 _ rfl
    clear m0 hu u1 u2 hu2 HE hlt5
    go_wp2_with fail
    refine (HR.out _).mono ?_
    rintro e w3 ⟨rfl, rfl⟩
    go_wp2_with fail
    try simp only [hW5]
    rw [HE2.out]
    exact bodyPost_ret (v := .agg #[.int .i64 q, .string s, .int .i64 (1 + x), .bool a, .bool bb, .int .i64 d, .int .i64 u, .int .i64 v, .int .i64 z]) (by simp [results, Tryd.results21, go_sem, f0, f1, f2, f3, f4, f5, f6, f7, f8]) rfl ⟨rfl, HU.out⟩
  · have HE2 : Hid (y = ⟨q, s, t, a, bb, d, u, v, z⟩) := HE.out.trans (if_neg h0)
    have t1 : (t == 0) = false := beq_eq_false_iff_ne.2 h0
    obtain ⟨W5, hW5, hu, u1⟩ := copy_out ⟨q, s, t, a, bb, d, u, v, z⟩ m0 HB1.out (Nat.le_refl _)
    simp only [cxCells, setsFrom, Nat.reduceAdd] at hW5 u1
    have hlt5 := (Array.getElem?_eq_some_iff.1 u1).1
    have u2 := (Below.heap_alloc W5 (.cells #[.int .i64 q, .string s, .int .i64 t, .bool a, .bool bb, .int .i64 d, .int .i64 u, .int .i64 v, .int .i64 z] 24) w.heap.size hlt5).trans u1
    have hu2 := hu.alloc (Nat.le_of_lt hlt5) (.cells #[.int .i64 q, .string s, .int .i64 t, .bool a, .bool bb, .int .i64 d, .int .i64 u, .int .i64 v, .int .i64 z] 24)
    have HU := Lib.hid hu2
    have c0 := block_cell m0 0 _ rfl
    have c1 := block_cell m0 1 _ rfl
    have c2 := block_cell m0 2 _ rfl
    have c3 := block_cell m0 3 _ rfl
    have c4 := block_cell m0 4 _ rfl
    have c5 := block_cell m0 5 _ rfl
    have c6 := block_cell m0 6 _ rfl
    have c7 := block_cell m0 7 _ rfl
    have c8 := block_cell m0 8 _ rfl
    have g0 := block_free m0 0
    have g1 := block_free m0 1
    have g2 := block_free m0 2
    have g3 := block_free m0 3
    have g4 := block_free m0 4
    have g5 := block_free m0 5
    have g6 := block_free m0 6
    have g7 := block_free m0 7
    have g8 := block_free m0 8
    have f0 := block_cell u2 0 _ rfl
    have f1 := block_cell u2 1 _ rfl
    have f2 := block_cell u2 2 _ rfl
    have f3 := block_cell u2 3 _ rfl
    have f4 := block_cell u2 4 _ rfl
    have f5 := block_cell u2 5 _ rfl
    have f6 := block_cell u2 6 _ rfl
    have f7 := block_cell u2 7 _ rfl
    have f8 := block_cell u2 8 _ rfl
    clear m0 hu u1 u2 hu2 HE hlt5
    go_wp2_with fail
    try simp only [hW5]
    rw [HE2.out]
    exact bodyPost_ret (v := .agg #[.int .i64 q, .string s, .int .i64 t, .bool a, .bool bb, .int .i64 d, .int .i64 u, .int .i64 v, .int .i64 z]) (by simp [results, Tryd.results21, go_sem, f0, f1, f2, f3, f4, f5, f6, f7, f8]) rfl ⟨rfl, HU.out⟩

def exC : Cx := ⟨7, ⟨#[55]⟩, 1, false, false, 50, 3, 1, 0⟩
def exK : Cx := ⟨7, ⟨#[55, 58, 49, 47, 48]⟩, 0, false, false, 48, 3, 1, 0⟩
def exD : Cx := ⟨7, ⟨#[55]⟩, 0, false, false, 0, 0, 0, 0⟩
theorem exK_eq : exC.kid 0 1 2 = exK := by kernel_rfl
theorem ex_key : keyOf exK.call = ⟨#[55, 47, 48]⟩ := by decide +kernel
theorem ex_span : (exK.tried 2 1).span = ⟨#[55, 58, 49, 47, 48, 58, 50]⟩ := by kernel_rfl
theorem ex_up : upOf ⟨#[55, 58, 49, 47, 48, 58, 50]⟩ = ⟨#[55, 58, 49]⟩ := by decide +kernel
theorem ex_depth : depthOf ⟨#[55, 58, 49, 47, 48, 58, 50]⟩ = 1 := by kernel_rfl
theorem ex_copy : exD.copy.call = ⟨#[55, 126]⟩ := by kernel_rfl
theorem ex_check : exC.check = 0 := by decide +kernel

set_option maxRecDepth 8000 in
set_option maxHeartbeats 2000000 in
theorem lives_any (w : World) (hL : MaxLenAt w) :
    Calls Tryd.prog 15 #[] w fun e w' => e = .returned (.bool true) ∧ Below w.heap.size w w' := by
  have HK : Hid (∀ w, Calls Tryd.prog 23 #[cxV exC, .int .i64 0, .int .i64 1, .int .i64 2] w fun e w' => e = .returned (cxV exK) ∧ Below w.heap.size w w') := fun w => exK_eq ▸ kid_any exC 0 1 2 (by decide) (by decide) (by decide) (by decide) (by decide) (by decide) (by decide) w
  have HT := Lib.hid (fun w => try_any exK 2 1 w)
  have HKEY := Lib.hid (fun w hL => key_any exK (by decide) w hL)
  rw [ex_key] at HKEY
  have HSP := Lib.hid (fun w => span_any (exK.tried 2 1) (by decide) (by decide) w)
  rw [ex_span] at HSP
  have HUP := Lib.hid (fun w => up_any ⟨#[55, 58, 49, 47, 48, 58, 50]⟩ (by decide) w)
  rw [ex_up] at HUP
  have HDE := Lib.hid (fun w => depth_any ⟨#[55, 58, 49, 47, 48, 58, 50]⟩ w)
  rw [ex_depth] at HDE
  have HCO := Lib.hid (fun w => copy_any exD (by decide) w)
  have HCH := Lib.hid (fun w => check_any exC (by decide) w)
  rw [ex_check] at HCH
  have ec : exD.copy = ⟨7, ⟨#[55, 126]⟩, 0, false, true, 0, 0, 0, 0⟩ := by kernel_rfl
  rw [ec] at HCO
  dsimp only [cxV, cxCells, exC, exK, exD, Cx.tried] at HK HT HKEY HSP HCO HCH
  have n1 := heap_alloc_new w (.cells #[.int .i64 7, .string ⟨#[55]⟩, .int .i64 1, .bool false, .bool false, .int .i64 50, .int .i64 3, .int .i64 1, .int .i64 0] 24)
  have b1 := (Below.refl w.heap.size w).alloc (Nat.le_refl _) (.cells #[.int .i64 7, .string ⟨#[55]⟩, .int .i64 1, .bool false, .bool false, .int .i64 50, .int .i64 3, .int .i64 1, .int .i64 0] 24)
  have HN1 := Lib.hid n1
  have HB1 := Lib.hid b1
  clear ec n1 b1
  go_enter Tryd.func15, Tryd.ntmps15
  go_wp2_with fail
  refine (HK.out _).mono ?_
  rintro e w1 ⟨rfl, hb1⟩
  have HB2 := Lib.hid (btrans HB1.out hb1)
  have HM1 := Lib.hid ((hb1.block _ (Array.getElem?_eq_some_iff.1 HN1.out).1).trans HN1.out)
  clear hb1 HB1 HN1 HK
  go_wp2_with fail
  refine (HT.out _).mono ?_
  rintro e w3 ⟨rfl, hb3⟩
  have nk := heap_alloc_new w1 (.cells #[.int .i64 7, .string ⟨#[55, 58, 49, 47, 48]⟩, .int .i64 0, .bool false, .bool false, .int .i64 48, .int .i64 3, .int .i64 1, .int .i64 0] 24)
  have nc := (Below.heap_alloc w1 (.cells #[.int .i64 7, .string ⟨#[55, 58, 49, 47, 48]⟩, .int .i64 0, .bool false, .bool false, .int .i64 48, .int .i64 3, .int .i64 1, .int .i64 0] 24) w.heap.size (Array.getElem?_eq_some_iff.1 HM1.out).1).trans HM1.out
  have bk := HB2.out.alloc (Nat.le_of_lt (Array.getElem?_eq_some_iff.1 HM1.out).1) (.cells #[.int .i64 7, .string ⟨#[55, 58, 49, 47, 48]⟩, .int .i64 0, .bool false, .bool false, .int .i64 48, .int .i64 3, .int .i64 1, .int .i64 0] 24)
  have nk3 := (hb3.block _ (Array.getElem?_eq_some_iff.1 nk).1).trans nk
  have nc3 := (hb3.block _ (Array.getElem?_eq_some_iff.1 nc).1).trans nc
  have bk3 := bk.trans (hb3.mono bk.size)
  have nt := heap_alloc_new w3 (.cells #[.int .i64 7, .string ⟨#[55, 58, 49, 47, 48]⟩, .int .i64 2, .bool false, .bool false, .int .i64 48, .int .i64 1, .int .i64 1, .int .i64 0] 24)
  have nk4 := (Below.heap_alloc w3 (.cells #[.int .i64 7, .string ⟨#[55, 58, 49, 47, 48]⟩, .int .i64 2, .bool false, .bool false, .int .i64 48, .int .i64 1, .int .i64 1, .int .i64 0] 24) _ (Array.getElem?_eq_some_iff.1 nk3).1).trans nk3
  have nc4 := (Below.heap_alloc w3 (.cells #[.int .i64 7, .string ⟨#[55, 58, 49, 47, 48]⟩, .int .i64 2, .bool false, .bool false, .int .i64 48, .int .i64 1, .int .i64 1, .int .i64 0] 24) _ (Array.getElem?_eq_some_iff.1 nc3).1).trans nc3
  have bk4 := bk3.alloc bk3.size (.cells #[.int .i64 7, .string ⟨#[55, 58, 49, 47, 48]⟩, .int .i64 2, .bool false, .bool false, .int .i64 48, .int .i64 1, .int .i64 1, .int .i64 0] 24)
  have HKB : Hid (∀ w', Below (w3.alloc (.cells #[.int .i64 7, .string ⟨#[55, 58, 49, 47, 48]⟩, .int .i64 2, .bool false, .bool false, .int .i64 48, .int .i64 1, .int .i64 1, .int .i64 0] 24)).heap.size (w3.alloc (.cells #[.int .i64 7, .string ⟨#[55, 58, 49, 47, 48]⟩, .int .i64 2, .bool false, .bool false, .int .i64 48, .int .i64 1, .int .i64 1, .int .i64 0] 24)) w' → w'.heap[w.heap.size]? = some (.cells #[.int .i64 7, .string ⟨#[55]⟩, .int .i64 1, .bool false, .bool false, .int .i64 50, .int .i64 3, .int .i64 1, .int .i64 0] 24 (0, 0)) ∧ w'.heap[w1.heap.size]? = some (.cells #[.int .i64 7, .string ⟨#[55, 58, 49, 47, 48]⟩, .int .i64 0, .bool false, .bool false, .int .i64 48, .int .i64 3, .int .i64 1, .int .i64 0] 24 (0, 0)) ∧ w'.heap[w3.heap.size]? = some (.cells #[.int .i64 7, .string ⟨#[55, 58, 49, 47, 48]⟩, .int .i64 2, .bool false, .bool false, .int .i64 48, .int .i64 1, .int .i64 1, .int .i64 0] 24 (0, 0)) ∧ Below w.heap.size w w') := fun w' hb =>
    ⟨(hb.block _ (Array.getElem?_eq_some_iff.1 nc4).1).trans nc4, (hb.block _ (Array.getElem?_eq_some_iff.1 nk4).1).trans nk4, (hb.block _ (Array.getElem?_eq_some_iff.1 nt).1).trans nt, bk4.trans (hb.mono bk4.size)⟩
  have k0 := block_cell nk4 0 _ rfl
  have k1 := block_cell nk4 1 _ rfl
  have k2 := block_cell nk4 2 _ rfl
  have k3 := block_cell nk4 3 _ rfl
  have k4 := block_cell nk4 4 _ rfl
  have k5 := block_cell nk4 5 _ rfl
  have k6 := block_cell nk4 6 _ rfl
  have k7 := block_cell nk4 7 _ rfl
  have k8 := block_cell nk4 8 _ rfl
  have HL4 := Lib.hid (hL.below hL.lt bk4)
  clear hb3 nk nc bk nk3 nc3 bk3 nt nk4 nc4 bk4 HM1 HB2 hL
  go_wp2_with fail
  refine (HKEY.out _ HL4.out).mono ?_
  rintro e w5 ⟨rfl, hb5⟩
  obtain ⟨oc, ok, ot, _⟩ := HKB.out _ hb5
  have HB5 := Lib.hid hb5
  have t0 := block_cell ot 0 _ rfl
  have t1 := block_cell ot 1 _ rfl
  have t2 := block_cell ot 2 _ rfl
  have t3 := block_cell ot 3 _ rfl
  have t4 := block_cell ot 4 _ rfl
  have t5 := block_cell ot 5 _ rfl
  have t6 := block_cell ot 6 _ rfl
  have t7 := block_cell ot 7 _ rfl
  have t8 := block_cell ot 8 _ rfl
  clear oc ok ot hb5 k0 k1 k2 k3 k4 k5 k6 k7 k8
  go_wp2_with fail
  refine (HSP.out _).mono ?_
  rintro e w6 ⟨rfl, hb6⟩
  have HB6 := Lib.hid (btrans HB5.out hb6)
  clear hb6 t0 t1 t2 t3 t4 t5 t6 t7 t8
  go_wp2_with fail
  refine (HUP.out _).mono ?_
  rintro e w7 ⟨rfl, rfl⟩
  go_wp2_with fail
  refine (HDE.out _).mono ?_
  rintro e w8 ⟨rfl, rfl⟩
  go_wp2_with fail
  refine (HCO.out _).mono ?_
  rintro e w9 ⟨rfl, hb9⟩
  obtain ⟨oc, ok, ot, _⟩ := HKB.out _ (btrans HB6.out hb9)
  have c0 := block_cell oc 0 _ rfl
  have c1 := block_cell oc 1 _ rfl
  have c2 := block_cell oc 2 _ rfl
  have c3 := block_cell oc 3 _ rfl
  have c4 := block_cell oc 4 _ rfl
  have c5 := block_cell oc 5 _ rfl
  have c6 := block_cell oc 6 _ rfl
  have c7 := block_cell oc 7 _ rfl
  have c8 := block_cell oc 8 _ rfl
  have HB9 := Lib.hid (btrans HB6.out hb9)
  have hfd : ∀ w : World, (Instr.field 24 (.agg #[.int .i64 7, .string ⟨#[55, 126]⟩, .int .i64 0, .bool false, .bool true, .int .i64 0, .int .i64 0, .int .i64 0, .int .i64 0]) 1).run Tryd.prog w = .ok (.string ⟨#[55, 126]⟩) w := fun _ => by kernel_rfl
  clear oc ok ot hb9
  go_wp2_with fail
  refine (HCH.out _).mono ?_
  rintro e wa ⟨rfl, hba⟩
  obtain ⟨oc, ok, ot, hfin⟩ := HKB.out _ (btrans HB9.out hba)
  have HF := Lib.hid hfin
  clear oc ok ot hba hfin
  go_wp2_with fail
  go_ret
  exact ⟨rfl, HF.out⟩

end Go.Proofs.YtjollcacgnfabaaDoor
