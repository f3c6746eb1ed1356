/- CtxNames. -/
import Derived.Test.YtjollcacgnfabaaDoorC21
namespace Go.Proofs.YtjollcacgnfabaaDoor
open Go.RowKit
attribute [local go_sem ↓] Go.wp_at_zero Go.wp_at_succ

set_option maxRecDepth 8000 in
set_option maxHeartbeats 2000000 in
theorem names_walk {w : World} {A : Option Addr} {k0 : Nat} {l : List Int} (h : ArgInts w A k0 l) (cap : Nat) (s : ByteArray) (hL : MaxLenAt w) :
    Calls Tryd.prog 4 #[.string s, .slice A k0 cap] w fun e w' => e = .returned (.bool true) ∧ Below w.heap.size w w' := by
  have HSH := Lib.hid (fun w => short_any s 40 (by decide) w)
  have hsz := shortOf_size s 40
  obtain ⟨a, ha⟩ : ∃ a, a = shortOf s 40 := ⟨_, rfl⟩
  rw [← ha] at HSH hsz
  have HC := Lib.hid (ctx_any h cap)
  obtain ⟨i1, i2, i3, i4, i5, i6, i7⟩ := ctxOf_in l
  have HSP := Lib.hid (fun w => rspan_any (ctxOf l) (by omega) (by omega) w)
  have hbz := span_size (ctxOf l)
  obtain ⟨b, hb⟩ : ∃ b, b = (ctxOf l).span := ⟨_, rfl⟩
  rw [← hb] at HSP hbz
  have hb31 : b.size ≤ 31 := by omega
  have HU1 := Lib.hid (fun w => up_any a (by omega) w)
  have HU2 := Lib.hid (fun w => rup_any a (by omega) w)
  have HU3 := Lib.hid (fun w => up_any b (by omega) w)
  have HU4 := Lib.hid (fun w => rup_any b (by omega) w)
  have HD1 := Lib.hid (fun w => depth_any a w)
  have HD2 := Lib.hid (fun w => rdepth_any a (by omega) w)
  have HD3 := Lib.hid (fun w => depth_any b w)
  have HD4 := Lib.hid (fun w => rdepth_any b (by omega) w)
  obtain ⟨ua, hua⟩ : ∃ ua, ua = upOf a := ⟨_, rfl⟩
  obtain ⟨ub, hub⟩ : ∃ ub, ub = upOf b := ⟨_, rfl⟩
  obtain ⟨da, hda⟩ : ∃ da, da = depthOf a := ⟨_, rfl⟩
  obtain ⟨db, hdb⟩ : ∃ db, db = depthOf b := ⟨_, rfl⟩
  rw [← hua] at HU1 HU2
  rw [← hub] at HU3 HU4
  rw [← hda] at HD1 HD2
  rw [← hdb] at HD3 HD4
  obtain ⟨c, hc⟩ : ∃ c, c = ctxOf l := ⟨_, rfl⟩
  rw [← hc] at HC HSP
  obtain ⟨q, t, tr, b1, b2, d, u, v, z⟩ := c
  dsimp only [cxV, cxCells] at HC HSP
  have HLV := Lib.hid (fun w' (hb : Below w.heap.size w w') => lives_any w' (hL.below hL.lt hb))
  clear ha hb hua hub hda hdb hc i1 i2 i3 i4 i5 i6 i7 hbz hb31 hsz h hL
  go_enter Tryd.func4, Tryd.ntmps4
  go_wp2_with fail
  refine (HSH.out _).mono ?_
  rintro e wz ⟨rfl, rfl⟩
  go_wp2_with fail
  refine HC.out.mono ?_
  rintro e w1 ⟨rfl, hb1⟩
  go_wp2_with fail
  refine (HSP.out _).mono ?_
  rintro e w2 ⟨rfl, hb2⟩
  have HB := Lib.hid (btrans hb1 hb2)
  clear hb1 hb2
  go_wp2_with fail
  refine (HU1.out _).mono ?_
  rintro e wq0 ⟨rfl, rfl⟩
  go_wp2_with fail
  refine (HU2.out _).mono ?_
  rintro e wq1 ⟨rfl, rfl⟩
  go_wp2_with fail
  refine (HD1.out _).mono ?_
  rintro e wq2 ⟨rfl, rfl⟩
  go_wp2_with fail
  refine (HD2.out _).mono ?_
  rintro e wq3 ⟨rfl, rfl⟩
  go_wp2_with fail
  refine (HU3.out _).mono ?_
  rintro e wq4 ⟨rfl, rfl⟩
  go_wp2_with fail
  refine (HU4.out _).mono ?_
  rintro e wq5 ⟨rfl, rfl⟩
  go_wp2_with fail
  refine (HD3.out _).mono ?_
  rintro e wq6 ⟨rfl, rfl⟩
  go_wp2_with fail
  refine (HD4.out _).mono ?_
  rintro e wq7 ⟨rfl, rfl⟩
  go_wp2_with fail
  refine (HLV.out _ HB.out).mono ?_
  rintro e w9 ⟨rfl, hb9⟩
  have HF := Lib.hid (btrans HB.out hb9)
  clear hb9
  go_wp2_with fail
  go_ret
  exact ⟨rfl, HF.out⟩

end Go.Proofs.YtjollcacgnfabaaDoor
