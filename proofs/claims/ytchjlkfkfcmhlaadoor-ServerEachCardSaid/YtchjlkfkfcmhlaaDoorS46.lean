/- ServerEach: the walk (printed by wip/tools/gen46s.py). -/
import Derived.Test.YtchjlkfkfcmhlaaDoorS45
namespace Go.Proofs.YtchjlkfkfcmhlaaDoor
open Go.RowKit
attribute [local go_sem ↓] Go.wp_at_zero Go.wp_at_succ

set_option maxRecDepth 8000 in
set_option maxHeartbeats 16000000 in
theorem each_walk {w : World} (hM : MaxLenAt w) (n : Int) (hn : -9223372036854775808 ≤ n ∧ n ≤ 9223372036854775807) {A : Option Addr} {k : Nat} {l : List Int} (hA : ArgInts w A k l) (cap : Nat) :
    Calls Tryd.prog 6 #[.int .i64 n, .slice A k cap] w fun e w' => e = .returned (.bool true) ∧ Below w.heap.size w w' := by
  have HSV := Lib.hid (fun w => service_any n hn w)
  have HMD := Lib.hid (fun w => made_any (svOf n) 10 w)
  have HM := Lib.hid hM
  have HA := Lib.hid hA
  clear hM hA hn
  go_enter Tryd.func6, Tryd.ntmps6
  go_wp2_with fail
  refine (HSV.out _).mono ?_
  rintro e W1 ⟨rfl, b1⟩
  have HB1 := Lib.hid b1
  clear b1
  go_wp2_with fail
  refine (HMD.out _).mono ?_
  rintro e W2 ⟨sb, rfl, hNS⟩
  obtain ⟨D, sr2, ok2, ht2, hn2, b2⟩ := hNS.keep HB1.out
  have HRN := Lib.hid (run_any sr2 (Glob.new HM.out b2 hn2) ok2 (svOf_ok n) (by decide) (HA.out.keep b2) cap false)
  have HB2 := Lib.hid b2
  have HN2 := Lib.hid hn2
  have HT2 := Lib.hid ht2
  clear hNS sr2 ok2 ht2 hn2 b2
  go_wp2_with fail
  refine HRN.out.mono ?_
  rintro e W3 ⟨D', all, ob, now, va, rfl, hR, hn0, hn1, hok, hlen, hRI⟩
  obtain ⟨la, lc, rfl⟩ := hRI.r.form
  rw [HT2.out] at hR
  have hcap : all.length ≤ lc := RowAt.cap hRI.r
  obtain ⟨m, hm⟩ : ∃ m, m = all.length := ⟨_, rfl⟩
  have hrow : RowIs W3 la all := fun i x hx => by
    obtain ⟨g, off, lc', e1, e2, hcl⟩ := hRI.r.cellsL (by have := (List.getElem?_eq_some_iff.1 hx).1; omega)
    injection e1 with e1 e3 e4
    exact ⟨g, off, e1, fun W hb j u hj => hcl W (hb.block _ (hRI.r.lt g e2)) i x hx j u hj⟩
  rw [← hm] at hRI hlen hcap ⊢
  have HEV := Lib.hid hR.ev.1
  have HSM := Lib.hid (hR.all atOf_small (SS.new_all _)).2
  have HB3 := Lib.hid (run_below HB2.out HN2.out hRI.mv)
  have HMM := Lib.hid hm
  have HCL := Lib.hid hrow
  have HLV : Hid (∀ W, Below W3.heap.size W3 W → Calls Tryd.prog 17 #[] W fun e w' => e = .returned (.bool true) ∧ Below W.heap.size W w') := fun W hb => lives_any (HM.out.below HM.out.lt (btrans HB3.out hb))
  have HCN : Hid (∀ (j c : Nat), j ≤ m → ∀ (what : Int) (nm : ByteArray) (W : World), Below W3.heap.size W3 W → Calls Tryd.prog 21 #[.slice la j c, .int .i64 what, .string nm] W fun e w' => e = .returned (.int .i64 (nO what nm (all.take j))) ∧ Below W.heap.size W w') :=
    fun j c hj what nm W hb => count_any hrow HSM.out j c (by rw [← hm]; exact hj) (by rw [← hm]; omega) what nm hb
  have HSP : Hid (∀ W (x : Ou × Int), x ∈ all → Calls Tryd.prog 20 #[.agg #[.int .i64 x.1.c.req, .string x.1.c.call, .int .i64 x.1.c.try_, .bool x.1.c.idem, .bool x.1.c.shadow, .int .i64 x.1.c.dl, .int .i64 x.1.c.purse, .int .i64 x.1.c.ver, .int .i64 x.1.c.prio]] W fun e w' => e = .returned (.string x.1.c.span) ∧ Below W.heap.size W w') := fun W x hx =>
    span_any x.1.c (by have := (HSM.out x hx).1; omega) (by have := (HSM.out x hx).2; omega) W
  clear hR hn0 hn1 hok hRI hm hrow
  go_wp2_with fail
  go_loopw [8] (fun vi wr => ∃ i : Nat, vi = .int .i64 i ∧ i ≤ m ∧ Below W3.heap.size W3 wr) (fun vi _ => (m - intOf vi).toNat)
  case atStart => exact ⟨0, rfl, Nat.zero_le _, Below.refl _ _⟩
  case round =>
    obtain ⟨i, rfl, hi, hbl⟩ := hrel
    have HBL := Lib.hid hbl
    clear hbl
    by_cases him : i < m
    · have t0 : decide ((i : Int) < (m : Int)) = true := decide_eq_true (by omega)
      obtain ⟨x, hx⟩ : ∃ x, all[i]? = some x := ⟨_, List.getElem?_eq_getElem (by have := HMM.out; omega)⟩
      obtain ⟨g, off, rfl, hq'⟩ := HCL.out i x hx
      have hq := hq' wr HBL.out
      have q0 : wr.cell? ⟨g, off + i * 13, none⟩ = some (.int .i64 x.1.what) := hq 0 _ rfl
      have q1 : wr.cell? ⟨g, off + i * 13 + 1, none⟩ = some (.int .i64 x.1.c.req) := hq 1 _ rfl
      have q2 : wr.cell? ⟨g, off + i * 13 + 2, none⟩ = some (.string x.1.c.call) := hq 2 _ rfl
      have q3 : wr.cell? ⟨g, off + i * 13 + 3, none⟩ = some (.int .i64 x.1.c.try_) := hq 3 _ rfl
      have q4 : wr.cell? ⟨g, off + i * 13 + 4, none⟩ = some (.bool x.1.c.idem) := hq 4 _ rfl
      have q5 : wr.cell? ⟨g, off + i * 13 + 5, none⟩ = some (.bool x.1.c.shadow) := hq 5 _ rfl
      have q6 : wr.cell? ⟨g, off + i * 13 + 6, none⟩ = some (.int .i64 x.1.c.dl) := hq 6 _ rfl
      have q7 : wr.cell? ⟨g, off + i * 13 + 7, none⟩ = some (.int .i64 x.1.c.purse) := hq 7 _ rfl
      have q8 : wr.cell? ⟨g, off + i * 13 + 8, none⟩ = some (.int .i64 x.1.c.ver) := hq 8 _ rfl
      have q9 : wr.cell? ⟨g, off + i * 13 + 9, none⟩ = some (.int .i64 x.1.c.prio) := hq 9 _ rfl
      have q10 : wr.cell? ⟨g, off + i * 13 + 10, none⟩ = some (.bool x.1.eff) := hq 10 _ rfl
      have q11 : wr.cell? ⟨g, off + i * 13 + 11, none⟩ = some (.int .i64 x.1.e) := hq 11 _ rfl
      have q12 : wr.cell? ⟨g, off + i * 13 + 12, none⟩ = some (.int .i64 x.2) := hq 12 _ rfl
      have i1 : (0 : Int) ≤ (i : Int) := by omega
      have i2 : (i : Int) < (m : Int) := by omega
      have hxm := List.mem_of_getElem? hx
      have hea := HEV.out.each hxm
      have hah := HEV.out.ahead i x hx
      have hki := HEV.out.kinds x hxm
      have hta : all.take m = all := List.take_of_length_le (by rw [HMM.out]; exact Nat.le_refl _)
      have HQ := Lib.hid hq'
      have HSX := Lib.hid (fun W => HSP.out W x hxm)
      obtain ⟨nm, hnm⟩ : ∃ nm, nm = x.1.c.span := ⟨_, rfl⟩
      rw [← hnm] at HSX hea hah
      have HC1 : Hid (∀ W, Below W3.heap.size W3 W → Calls Tryd.prog 21 #[.slice (some ⟨g, off, none⟩) m lc, .int .i64 1, .string nm] W fun e w' => e = .returned (.int .i64 (nO 1 nm all)) ∧ Below W.heap.size W w') := fun W hb => by have h := HCN.out m lc (Nat.le_refl _) 1 nm W hb; rw [hta] at h; exact h
      have HC2 : Hid (∀ W, Below W3.heap.size W3 W → Calls Tryd.prog 21 #[.slice (some ⟨g, off, none⟩) m lc, .int .i64 2, .string nm] W fun e w' => e = .returned (.int .i64 (nO 2 nm all)) ∧ Below W.heap.size W w') := fun W hb => by have h := HCN.out m lc (Nat.le_refl _) 2 nm W hb; rw [hta] at h; exact h
      have HC3 : Hid (∀ W, Below W3.heap.size W3 W → Calls Tryd.prog 21 #[.slice (some ⟨g, off, none⟩) m lc, .int .i64 3, .string nm] W fun e w' => e = .returned (.int .i64 (nO 3 nm all)) ∧ Below W.heap.size W w') := fun W hb => by have h := HCN.out m lc (Nat.le_refl _) 3 nm W hb; rw [hta] at h; exact h
      have HC4 : Hid (∀ W, Below W3.heap.size W3 W → x.1.what = 2 → Calls Tryd.prog 21 #[.slice (some ⟨g, off, none⟩) i lc, .int .i64 1, .string nm] W fun e w' => e = .returned (.int .i64 1) ∧ Below W.heap.size W w') := fun W hb hw => by have h := HCN.out i lc (by omega) 1 nm W hb; rw [hah hw] at h; exact h
      obtain ⟨b, hb'⟩ : ∃ b, b = nO 1 nm all := ⟨_, rfl⟩
      obtain ⟨c2, hc2⟩ : ∃ c2, c2 = nO 2 nm all := ⟨_, rfl⟩
      obtain ⟨c3, hc3⟩ : ∃ c3, c3 = nO 3 nm all := ⟨_, rfl⟩
      rw [← hb'] at hea HC1
      rw [← hc2] at hea HC2
      rw [← hc3] at hea HC3
      obtain ⟨B, hB⟩ : ∃ B : Int, B = (b : Int) := ⟨_, rfl⟩
      obtain ⟨C2, hC2⟩ : ∃ C2 : Int, C2 = (c2 : Int) := ⟨_, rfl⟩
      obtain ⟨C3, hC3⟩ : ∃ C3 : Int, C3 = (c3 : Int) := ⟨_, rfl⟩
      rw [← hB] at HC1
      rw [← hC2] at HC2
      rw [← hC3] at HC3
      have HEA : Hid (B ≤ 1 ∧ C2 + C3 ≤ 1 ∧ C2 ≤ B ∧ (x.1.what = 3 → (x.1.e = 35 ↔ B = 1)) ∧ 0 ≤ C2 ∧ 0 ≤ C3) :=
        ⟨by have := hea.1; omega, by have := hea.2.1; omega, by have := hea.2.2.1; omega, fun hw => (hea.2.2.2 hw).trans (by omega), by omega, by omega⟩
      have HKI := Lib.hid hki
      clear hx hq hq' hxm hea hah hki hta hnm hb' hc2 hc3 hB hC2 hC3
      go_wp2_with fail
      refine (HSX.out _).mono ?_
      rintro e Wa ⟨rfl, ba⟩
      have HBa := Lib.hid (btrans HBL.out ba)
      clear ba q0 q1 q2 q3 q4 q5 q6 q7 q8 q9 q10 q11 q12
      go_wp2_with fail
      refine (HC1.out _ HBa.out).mono ?_
      rintro e Wb ⟨rfl, bb⟩
      have HBb := Lib.hid (btrans HBa.out bb)
      clear bb
      go_wp2_with fail
      refine (HC2.out _ HBb.out).mono ?_
      rintro e Wc ⟨rfl, bc⟩
      have HBc := Lib.hid (btrans HBb.out bc)
      clear bc
      go_wp2_with fail
      refine (HC3.out _ HBc.out).mono ?_
      rintro e Wd ⟨rfl, bd⟩
      have HBd := Lib.hid (btrans HBc.out bd)
      clear bd
      have r0 : Wd.cell? ⟨g, off + i * 13, none⟩ = some (.int .i64 x.1.what) := HQ.out Wd HBd.out 0 _ rfl
      have r11 : Wd.cell? ⟨g, off + i * 13 + 11, none⟩ = some (.int .i64 x.1.e) := HQ.out Wd HBd.out 11 _ rfl
      obtain ⟨h1, h2, h3, h4, h6, h7⟩ := HEA.out
      have g1 : IntKind.i64.wrap (C2 + C3) = C2 + C3 := IntWalk.i64_in _ (by omega)
      have u1 : decide (1 < B) = false := decide_eq_false (by omega)
      have u2 : decide (1 < C2 + C3) = false := decide_eq_false (by omega)
      have u3 : decide (B < C2) = false := decide_eq_false (by omega)
      rcases HKI.out with hk | hk | hk
      · rw [hk] at r0
        clear h4 h6 h7 hk
        go_wp2_with fail
        go_roundw
        case rel => exact ⟨i + 1, by go_num, by omega, HBd.out⟩
        case measure => simp [intOf]; omega
      · have HC5 := Lib.hid (HC4.out Wd HBd.out hk)
        have hql : i ≤ lc := by omega
        rw [hk] at r0
        clear h4 h6 h7
        go_wp2_with fail
        refine HC5.out.mono ?_
        rintro e We ⟨rfl, be⟩
        have HBe := Lib.hid (btrans HBd.out be)
        have s0 : We.cell? ⟨g, off + i * 13, none⟩ = some (.int .i64 2) := by rw [← hk]; exact HQ.out We HBe.out 0 _ rfl
        clear be hk
        go_wp2_with fail
        go_roundw
        case rel => exact ⟨i + 1, by go_num, by omega, HBe.out⟩
        case measure => simp [intOf]; omega
      · have h5 := h4 hk
        rw [hk] at r0
        by_cases he : x.1.e = 35
        · have hb1 := h5.1 he
          rw [he] at r11
          have v1 : (B == 1) = true := by rw [hb1]; rfl
          clear h4 h6 h7 hk h5 he hb1
          go_wp2_with fail
          go_roundw
          case rel => exact ⟨i + 1, by go_num, by omega, HBd.out⟩
          case measure => simp [intOf]; omega
        · have hb1 : ¬ B = 1 := fun e => he (h5.2 e)
          have v0 : (x.1.e == 35) = false := beq_eq_false_iff_ne.2 he
          have v1 : (B == 1) = false := beq_eq_false_iff_ne.2 (by omega)
          clear h4 h6 h7 hk h5 he hb1
          go_wp2_with fail
          go_roundw
          case rel => exact ⟨i + 1, by go_num, by omega, HBd.out⟩
          case measure => simp [intOf]; omega
    · have t0 : decide ((i : Int) < (m : Int)) = false := decide_eq_false (by omega)
      have HLW := Lib.hid (HLV.out wr HBL.out)
      have HBW := Lib.hid (btrans HB3.out HBL.out)
      go_wp2_with fail
      refine HLW.out.mono ?_
      rintro e W9 ⟨rfl, b9⟩
      go_wp2_with fail
      go_ret
      exact ⟨rfl, btrans HBW.out b9⟩

end Go.Proofs.YtchjlkfkfcmhlaaDoor
