/- ServerWork: the walk (printed by wip/tools/gen50s.py). -/
import Derived.Test.YtchjlkfkfcmhlaaDoorS49
namespace Go.Proofs.YtchjlkfkfcmhlaaDoor
open Go.RowKit
attribute [local go_sem ↓] Go.wp_at_zero Go.wp_at_succ

def WkL (W2 : World) (sb : Nat) (s : Sv) (D : SD) (K : Int) (i : Nat) (va : Value) (wr : World) : Prop :=
  ∃ D' all ob, WkI s K (K * 4) i D'.t all ∧ (∀ x ∈ all, 0 ≤ x.2 ∧ x.2 ≤ 80) ∧ D'.Ok i 40 ∧ (∃ la lc, va = .slice la all.length lc) ∧ all.length ≤ 200 * i ∧ RI seenK W2 sb 10 i s D D' all ob va wr

set_option maxRecDepth 8000 in
set_option maxHeartbeats 16000000 in
theorem work_walk {w : World} (hM : MaxLenAt w) (n lazy : Int) (hn : -9223372036854775808 ≤ n ∧ n ≤ 9223372036854775807) (hl : -9223372036854775808 ≤ lazy ∧ lazy ≤ 9223372036854775807) {A : Option Addr} {k : Nat} {l : List Int} (hA : ArgInts w A k l) (cap : Nat) :
    Calls Tryd.prog 3 #[.int .i64 n, .slice A k cap, .int .i64 lazy] w fun e w' => e = .returned (.bool true) ∧ Below w.heap.size w w' := by
  have HAR := Lib.hid (fun w => around_any lazy 3 w hl.1 hl.2 (by decide) (by decide))
  obtain ⟨y0, y1⟩ := around_bd lazy (m := 3) (by decide)
  obtain ⟨y, hy⟩ : ∃ y, y = around lazy 3 := ⟨_, rfl⟩
  rw [← hy] at y0 y1 HAR
  obtain ⟨s, hs⟩ : ∃ s, s = svOf n := ⟨_, rfl⟩
  have HSK : Hid s.Ok := hs ▸ svOf_ok n
  have hSV := fun w => service_any n hn w
  rw [← hs] at hSV
  have HMD := Lib.hid (fun w => made_any s 10 w)
  unfold svV svCells at hSV HMD
  have HSV := Lib.hid hSV
  have HM := Lib.hid hM
  have HA := Lib.hid hA
  have g1 : IntKind.i64.wrap (1 + y) = 1 + y := IntWalk.i64_in _ (by omega)
  clear hM hA hn hl hy hs hSV
  go_enter Tryd.func3, Tryd.ntmps3
  go_wp2_with fail
  refine (HSV.out _).mono ?_
  rintro e W1 ⟨rfl, b1⟩
  obtain ⟨Wa, hWa⟩ : ∃ Wa, W1.alloc (.cells #[.int .i64 s.id, .slice none 0 0, .int .i64 s.work, .int .i64 s.slots, .int .i64 s.queue, .int .i64 s.bal, .int .i64 s.warm] 25) = Wa := ⟨_, rfl⟩
  have ba : Below W1.heap.size W1 Wa := by rw [← hWa]; exact (Below.refl _ _).alloc (Nat.le_refl _) _
  have za : Wa.heap[W1.heap.size]? = some (.cells #[.int .i64 s.id, .slice none 0 0, .int .i64 s.work, .int .i64 s.slots, .int .i64 s.queue, .int .i64 s.bal, .int .i64 s.warm] 25 (0, 0)) := by rw [← hWa]; exact heap_alloc_new W1 _
  have HBA := Lib.hid (btrans b1 ba)
  have HZA := Lib.hid za
  have v0 := block_cell za 0 _ rfl
  have v1 := block_cell za 1 _ rfl
  have v2 := block_cell za 2 _ rfl
  have v3 := block_cell za 3 _ rfl
  have v4 := block_cell za 4 _ rfl
  have v5 := block_cell za 5 _ rfl
  have v6 := block_cell za 6 _ rfl
  clear b1 ba za
  go_wp2_with fail
  clear v0 v1 v2 v3 v4 v5 v6 hWa
  refine (HMD.out _).mono ?_
  rintro e W2 ⟨sb, rfl, hNS⟩
  obtain ⟨D, sr2, ok2, ht2, hn2, b2⟩ := hNS
  have hb2 := btrans HBA.out b2
  have hn2' : ∀ b, D.who b ≠ 0 → w.heap.size ≤ b := fun b e => Nat.le_trans HBA.out.size (hn2 b e)
  have hz1 := (Array.getElem?_eq_some_iff.1 HZA.out).1
  have HW0 : Hid (D.who W1.heap.size = 0) := Classical.byContradiction fun hne => by have := hn2 _ hne; omega
  have HZ2 : Hid (W2.heap[W1.heap.size]? = some (.cells #[.int .i64 s.id, .slice none 0 0, .int .i64 s.work, .int .i64 s.slots, .int .i64 s.queue, .int .i64 s.bal, .int .i64 s.warm] 25 (0, 0))) := (b2.block _ hz1).trans HZA.out
  have HL2 : Hid (W1.heap.size < W2.heap.size) := Nat.lt_of_lt_of_le hz1 b2.size
  have HB2 := Lib.hid hb2
  have HN2 := Lib.hid hn2'
  have HG2 := Lib.hid (Glob.new HM.out hb2 hn2')
  have hst : WkA W2 sb s D 0 W2 := ⟨D, sr2, Mv.refl _ _, ok2, by rw [ht2]; rfl, by rw [ht2]; rfl, by rw [ht2]; rfl, (fun c hc => by rw [ht2] at hc; cases hc), by rw [ht2]; exact EvI.new, by rw [ht2]; have := HSK.out.queue; show ((0 : Nat) : Int) ≤ s.queue; omega⟩
  have HST := Lib.hid hst
  clear sr2 ok2 ht2 hn2 hn2' b2 hb2 hz1 hst
  go_wp2_with fail
  refine (HAR.out _).mono ?_
  rintro e wq ⟨rfl, hwq⟩
  rw [← hwq]
  clear hwq wq
  go_wp2_with fail
  obtain ⟨kz, hkz⟩ : ∃ kz, kz = 1 + y := ⟨_, rfl⟩
  rw [← hkz]
  have HKZ : Hid (1 ≤ kz ∧ kz ≤ 3) := by show 1 ≤ kz ∧ kz ≤ 3; omega
  clear hkz y0 y1 g1
  go_loopw [10] (fun vi wr => ∃ i : Nat, vi = .int .i64 i ∧ i ≤ 5 ∧ Hid (WkA W2 sb s D i wr)) (fun vi _ => (5 - intOf vi).toNat)
  case atStart => exact ⟨0, rfl, Nat.zero_le _, HST.out⟩
  case round =>
    obtain ⟨i, rfl, hi, hl⟩ := hrel
    obtain ⟨D3, sr3, mv3, ok3, hd3, ha3, hw3, hl3, he3, hq3⟩ := hl.out
    have harg := HA.out.keep (run_below HB2.out HN2.out mv3)
    obtain ⟨a0, a1, a2, a3⟩ := harg
    have HSR := Lib.hid sr3
    have HMV := Lib.hid mv3
    have HOK := Lib.hid ok3
    have HP : Hid (D3.t.down = false ∧ D3.t.again = false ∧ D3.t.works = [] ∧ (∀ c ∈ D3.t.waits, 1000 ≤ c.dl) ∧ EvI D3.t.waits D3.t.works D3.t.came [] ∧ (D3.t.waits.length : Int) ≤ s.queue) := ⟨hd3, ha3, hw3, hl3, he3, hq3⟩
    clear sr3 mv3 ok3 hd3 ha3 hw3 hl3 he3 hq3
    by_cases hlt : i < k ∧ i < 5
    · obtain ⟨l1, l2⟩ := hlt
      have t1 : decide ((i : Int) < (k : Int)) = true := decide_eq_true (by omega)
      have t2 : decide ((i : Int) < 5) = true := decide_eq_true (by omega)
      have i1 : (0 : Int) ≤ (i : Int) := by omega
      have i2 : (i : Int) < (k : Int) := by omega
      obtain ⟨bq, off, rfl, hc⟩ := a3.resolve_left (by omega)
      have c0 := hc i (by rw [a0]; omega)
      have hbd := a2 (l[i]'(by rw [a0]; omega)) (List.getElem_mem _)
      obtain ⟨z, hz⟩ : ∃ z, z = l[i]'(by rw [a0]; omega) := ⟨_, rfl⟩
      rw [← hz] at c0 hbd
      have hAT := fun W => attempt_any z 1000 hbd (by decide) W
      obtain ⟨c, hcc⟩ : ∃ c, c = atOf z 1000 := ⟨_, rfl⟩
      have hsm := atOf_small z 1000
      have hdl := (atOf_dl z 1000).1
      rw [← hcc] at hAT hsm hdl
      unfold cxV cxCells at hAT
      have HAT := Lib.hid hAT
      have HCS : Hid (Small c ∧ 1000 ≤ c.dl) := ⟨hsm, hdl⟩
      clear a0 a1 a2 a3 hc hbd hz hAT hcc hsm hdl hl
      go_wp2_with fail
      refine (HAT.out _).mono ?_
      rintro e Wb ⟨rfl, bb⟩
      obtain ⟨Wj, hWj⟩ : ∃ Wj, Wb.alloc (.cells #[.int .i64 c.req, .string c.call, .int .i64 c.try_, .bool c.idem, .bool c.shadow, .int .i64 c.dl, .int .i64 c.purse, .int .i64 c.ver, .int .i64 c.prio] 31) = Wj := ⟨_, rfl⟩
      have bj : Below Wb.heap.size Wb Wj := by rw [← hWj]; exact (Below.refl _ _).alloc (Nat.le_refl _) _
      have zj : Wj.heap[Wb.heap.size]? = some (.cells #[.int .i64 c.req, .string c.call, .int .i64 c.try_, .bool c.idem, .bool c.shadow, .int .i64 c.dl, .int .i64 c.purse, .int .i64 c.ver, .int .i64 c.prio] 31 (0, 0)) := by rw [← hWj]; exact heap_alloc_new Wb _
      have hCM := come_any (HSR.out.below (btrans bb bj)) HOK.out (by omega) c (by have := HCS.out.1.1; omega) (by have := HCS.out.1.2; omega)
      unfold cxV cxCells at hCM
      have HCM := Lib.hid hCM
      have HBJ := Lib.hid (btrans bb bj)
      have x0 := block_cell zj 0 _ rfl
      have x1 := block_cell zj 1 _ rfl
      have x2 := block_cell zj 2 _ rfl
      have x3 := block_cell zj 3 _ rfl
      have x4 := block_cell zj 4 _ rfl
      have x5 := block_cell zj 5 _ rfl
      have x6 := block_cell zj 6 _ rfl
      have x7 := block_cell zj 7 _ rfl
      have x8 := block_cell zj 8 _ rfl
      clear bb bj zj hCM c0
      go_wp2_with fail
      refine HCM.out.mono ?_
      rintro e Wk ⟨D4, outs, v, fresh, rfl, sr4, ok4, mv4, ho4, hc4⟩
      obtain ⟨ob4, hr4, _⟩ := ho4
      obtain ⟨la4, lc4, rfl⟩ := hr4.form
      obtain ⟨p1, p2, p3, p4, p5, p6⟩ := HP.out
      obtain ⟨r1, r2, r3, r4, r5⟩ := come_more hc4 p6 p4 HCS.out.2
      have HF : Hid (WkA W2 sb s D (i + 1) Wk) := ⟨D4, sr4, (HMV.out.below HBJ.out).trans mv4, ok4, r1.trans p1, r2.trans p2, r3.trans p3, r4, hc4.ev0 p5, r5⟩
      clear sr4 ok4 mv4 hc4 hr4 p1 p2 p3 p4 p5 p6 r1 r2 r3 r4 r5 hWj x0 x1 x2 x3 x4 x5 x6 x7 x8
      go_wp2_with fail
      go_roundw
      case rel => exact ⟨i + 1, by go_num, by omega, HF⟩
      case measure => simp [intOf]; omega
    · have HI := Lib.hid (show i ≤ 5 from hi)
      clear a0 a1 a2 a3 hl
      go_upto_region 7 with fail
      go_cut [34] from 27 to 44 (fun v wx => v = .bool false ∧ wx = wr)
      case first =>
        by_cases l1 : i < k
        · have t1 : decide ((i : Int) < (k : Int)) = true := decide_eq_true (by omega)
          have t2 : decide ((i : Int) < 5) = false := decide_eq_false (by omega)
          go_wp2_with fail
          go_meet
          exact ⟨rfl, rfl⟩
        · have t1 : decide ((i : Int) < (k : Int)) = false := decide_eq_false (by omega)
          go_wp2_with fail
          go_meet
          exact ⟨rfl, rfl⟩
      case rest =>
        obtain ⟨rfl, rfl⟩ := hcut
        have hSR3 := HSR.out
        have hMV3 := HMV.out
        have hOK3 := HOK.out
        obtain ⟨p1, p2, p3, p4, p5, p6⟩ := HP.out
        obtain ⟨K, hK⟩ : ∃ K, K = s.work * kz := ⟨_, rfl⟩
        have hKb : 1 ≤ K ∧ K ≤ 12 := by
          have h1 := HSK.out.work
          have h2 := HKZ.out
          have h3 : 1 * 1 ≤ s.work * kz := Int.mul_le_mul h1.1 h2.1 (by omega) (by omega)
          have h4 : s.work * kz ≤ 4 * 3 := Int.mul_le_mul h1.2 h2.2 (by omega) (by omega)
          rw [hK]; exact ⟨by omega, by omega⟩
        have hwk0 := WkI.start p1 p2 p3 p4 p5 p6 (by omega : (0 : Int) ≤ K) HSK.out
        have hst2 : WkL W2 sb s D K 0 (.slice none 0 0) wc := ⟨D3, [], none, hwk0, (fun x hx => by cases hx), hOK3.mono (Int.le_refl _) (by have := HI.out; omega), ⟨_, _, rfl⟩, Nat.le_refl _, hSR3, hMV3, seenK.nil _, fun g e => by cases e⟩
        have HST2 := Lib.hid hst2
        have HK := Lib.hid hK
        have HKB := Lib.hid hKb
        clear hSR3 hMV3 hOK3 p1 p2 p3 p4 p5 p6 hK hKb hwk0 hst2
        go_wp2_with fail
        go_loopw [12, 13] (fun va vi wr => ∃ i : Nat, vi = .int .i64 i ∧ i ≤ 80 ∧ Hid (WkL W2 sb s D K i va wr)) (fun _ vi _ => (80 - intOf vi).toNat)
        case atStart => exact ⟨0, rfl, Nat.zero_le _, HST2.out⟩
        case round =>
          obtain ⟨i, rfl, hi, hl⟩ := hrel
          obtain ⟨D', all, ob, hWK, htm, hok', ⟨la1, lc1, rfl⟩, hal, hRI⟩ := hl.out
          obtain ⟨m1, hm1⟩ : ∃ m1, m1 = all.length := ⟨_, rfl⟩
          rw [← hm1] at hRI hal ⊢
          have HWK := Lib.hid hWK
          have HTM := Lib.hid htm
          have HM1 := Lib.hid hm1
          have HOK' := Lib.hid hok'
          have HRI := Lib.hid hRI
          clear hl hWK htm hok' hRI hm1
          by_cases hlt : i < 80
          · have t0 : decide ((i : Int) < 80) = true := decide_eq_true (by omega)
            have HSTP := Lib.hid (step_any HRI.out.sr (HG2.out.mv HRI.out.mv) HOK'.out (by decide) HSK.out (by omega) (by omega) false 0 kz ⟨HKZ.out.1, by have := HKZ.out.2; omega⟩)
            go_wp2_with fail
            refine HSTP.out.mono ?_
            rintro e W6 ⟨D2, outs, v6, rfl, sr2, mv2, ho2, ok2, hs6, hol⟩
            obtain ⟨gb, hg2, hgb⟩ := ho2
            obtain ⟨la2, lc2, rfl⟩ := hg2.form
            obtain ⟨m2, hm2⟩ : ∃ m2, m2 = outs.length := ⟨_, rfl⟩
            rw [← hm2] at hg2 hol ⊢
            have hRc := HRI.out.move sr2 mv2
            have hin : RunI W2 sb 10 i s D D2 all outs gb (.slice la2 m2 lc2) 0 (.slice la1 m1 lc1) W6 := by
              have ha0 : all ++ atNow (outs.take 0) i = all := by rw [List.take_zero]; exact List.append_nil _
              refine ⟨ob, ?_, ⟨la1, lc1, by rw [ha0, ← HM1.out]⟩, hg2, fun g e e2 => ?_, fun g e => ⟨(hgb g e).2, Nat.le_trans HRI.out.mv.1.size (hgb g e).1⟩⟩
              · rw [ha0]; exact hRc
              · have h1 := HRI.out.r.lt g e2
                have h2 := (hgb g e).1
                omega
            have HIN := Lib.hid hin
            have HM2 := Lib.hid hm2
            have HWK2 := Lib.hid (HWK.out.step HSK.out HK.out HKB.out.1 (by omega) hs6)
            have HOK2 := Lib.hid ok2
            have HOL := Lib.hid hol
            clear t0 sr2 mv2 hg2 hgb ok2 hs6 hm2 hRc hin hol
            go_wp2_with fail
            have hm2b : m2 ≤ 200 := HOL.out
            go_loopw [12, 15] (fun va vk wr2 => ∃ kk : Nat, vk = .int .i64 kk ∧ kk ≤ m2 ∧ Hid (RunI W2 sb 10 i s D D2 all outs gb (.slice la2 m2 lc2) kk va wr2)) (fun _ vk _ => (m2 - intOf vk).toNat)
            case atStart => exact ⟨0, rfl, Nat.zero_le _, HIN.out⟩
            case round =>
              obtain ⟨kk, rfl, hkk, hl⟩ := hrel
              obtain ⟨ob3, hR3, ⟨la3, lc3, rfl⟩, hg3, hs3, hgf3⟩ := hl.out
              obtain ⟨m3, hm3⟩ : ∃ m3, m3 = (all ++ atNow (outs.take kk) (i : Int)).length := ⟨_, rfl⟩
              rw [← hm3] at hR3 ⊢
              have HM3' : Hid (m3 = m1 + kk) := by
                show m3 = m1 + kk
                rw [hm3, List.length_append, List.length_map, List.length_take, ← HM1.out, ← HM2.out]; omega
              have HR3 := Lib.hid hR3
              have HG3 := Lib.hid hg3
              have HS3 := Lib.hid hs3
              have HGF3 := Lib.hid hgf3
              have HM3 := Lib.hid hm3
              clear hl hR3 hg3 hs3 hgf3 hm3
              by_cases hkm : kk < m2
              · have t0 : decide ((kk : Int) < (m2 : Int)) = true := decide_eq_true (by omega)
                obtain ⟨o, ho⟩ : ∃ o, outs[kk]? = some o := ⟨_, List.getElem?_eq_getElem (by have := HM2.out; omega)⟩
                obtain ⟨g2, off2, lc4, e1, e2, hcl⟩ := HG3.out.cellsL (by have := HM2.out; omega)
                have hcl2 := hcl wr rfl kk o ho
                rw [← HM2.out] at e1
                injection e1 with e1 e3 e4
                subst e1
                have q0 : wr.cell? ⟨g2, off2 + kk * 12, none⟩ = some (.int .i64 o.what) := hcl2 0 _ rfl
                have q1 : wr.cell? ⟨g2, off2 + kk * 12 + 1, none⟩ = some (.int .i64 o.c.req) := hcl2 1 _ rfl
                have q2 : wr.cell? ⟨g2, off2 + kk * 12 + 2, none⟩ = some (.string o.c.call) := hcl2 2 _ rfl
                have q3 : wr.cell? ⟨g2, off2 + kk * 12 + 3, none⟩ = some (.int .i64 o.c.try_) := hcl2 3 _ rfl
                have q4 : wr.cell? ⟨g2, off2 + kk * 12 + 4, none⟩ = some (.bool o.c.idem) := hcl2 4 _ rfl
                have q5 : wr.cell? ⟨g2, off2 + kk * 12 + 5, none⟩ = some (.bool o.c.shadow) := hcl2 5 _ rfl
                have q6 : wr.cell? ⟨g2, off2 + kk * 12 + 6, none⟩ = some (.int .i64 o.c.dl) := hcl2 6 _ rfl
                have q7 : wr.cell? ⟨g2, off2 + kk * 12 + 7, none⟩ = some (.int .i64 o.c.purse) := hcl2 7 _ rfl
                have q8 : wr.cell? ⟨g2, off2 + kk * 12 + 8, none⟩ = some (.int .i64 o.c.ver) := hcl2 8 _ rfl
                have q9 : wr.cell? ⟨g2, off2 + kk * 12 + 9, none⟩ = some (.int .i64 o.c.prio) := hcl2 9 _ rfl
                have q10 : wr.cell? ⟨g2, off2 + kk * 12 + 10, none⟩ = some (.bool o.eff) := hcl2 10 _ rfl
                have q11 : wr.cell? ⟨g2, off2 + kk * 12 + 11, none⟩ = some (.int .i64 o.e) := hcl2 11 _ rfl
                have i1 : (0 : Int) ≤ (kk : Int) := by omega
                have i2 : (kk : Int) < (m2 : Int) := by omega
                obtain ⟨WA, hWA⟩ : ∃ WA, wr.alloc (.cells #[.int .i64 o.what, .int .i64 o.c.req, .string o.c.call, .int .i64 o.c.try_, .bool o.c.idem, .bool o.c.shadow, .int .i64 o.c.dl, .int .i64 o.c.purse, .int .i64 o.c.ver, .int .i64 o.c.prio, .bool o.eff, .int .i64 o.e, .int .i64 i] 42) = WA := ⟨_, rfl⟩
                have bA : Below wr.heap.size wr WA := by rw [← hWA]; exact (Below.refl _ _).alloc (Nat.le_refl _) _
                have zA : WA.heap[wr.heap.size]? = some (.cells (seenK.f (o, (i : Int))).toArray 42 (0, 0)) := by rw [← hWA]; exact heap_alloc_new wr _
                obtain ⟨la5, lc5, ob5, W9, hap0, hR9, hf9, hb9⟩ := (HR3.out.below bA).push HM3.out (by rw [← HM3.out]; have := HM3'.out; have := HOL.out; omega) zA 1
                have happ : (Builtin.append_ #[36, 36] 36 #[.slice la3 m3 lc3, .slice (some ⟨wr.heap.size, 0, none⟩) 1 1]).run Tryd.prog WA = .ok (.slice la5 (m3 + 1) lc5) W9 := hap0
                have hTK : outs.take (kk + 1) = outs.take kk ++ [o] := by rw [List.take_add_one, ho]; rfl
                have hLL : all ++ atNow (outs.take (kk + 1)) (i : Int) = (all ++ atNow (outs.take kk) (i : Int)) ++ [(o, (i : Int))] := by rw [hTK]; show all ++ (outs.take kk ++ [o]).map (fun o => (o, (i : Int))) = _; rw [List.map_append, ← List.append_assoc]; rfl
                have HF : Hid (RunI W2 sb 10 i s D D2 all outs gb (.slice (some ⟨g2, off2, none⟩) m2 lc2) (kk + 1) (.slice la5 (m3 + 1) lc5) W9) := by
                  refine ⟨ob5, ?_, ⟨la5, lc5, ?_⟩, ?_, fun g e e5 => ?_, HGF3.out⟩
                  · rw [hLL]; exact hR9
                  · rw [hLL, List.length_append, ← HM3.out]; rfl
                  · exact (HG3.out.below bA).keep fun g e => hf9.block g (Nat.lt_of_lt_of_le (HG3.out.lt g e) bA.size) fun e5 => HS3.out g e e5
                  · rcases hb9 with e6 | e6
                    · exact HS3.out g e (e6.symm.trans e5)
                    · rw [e5] at e6; cases e6; have h1 := HG3.out.lt _ e; have h2 := bA.size; omega
                clear ho e2 e3 e4 hcl hcl2 bA zA hap0 hR9 hf9 hb9 hTK hLL
                go_wp2_with (at_builtin; refine wpList_run (by rfl) (exec_append _ _ _ _ (by rfl) _ _ (by rfl) (by rfl) happ) ?_)
                go_roundw
                case rel => exact ⟨kk + 1, by go_num, by omega, HF⟩
                case measure => simp [intOf]; omega
              · have t0 : decide ((kk : Int) < (m2 : Int)) = false := decide_eq_false (by omega)
                obtain rfl : kk = m2 := by omega
                have hfin : WkL W2 sb s D K (i + 1) (.slice la3 m3 lc3) wr := by
                  have hT : outs.take kk = outs := List.take_of_length_le (by rw [← HM2.out]; exact Nat.le_refl _)
                  have hr := HR3.out
                  rw [hT] at hr
                  have hm := HM3.out
                  rw [hT] at hm
                  refine ⟨D2, all ++ atNow outs (i : Int), ob3, HWK2.out, fun x hx => ?_, HOK2.out.mono (by omega) (Nat.le_refl _), ⟨la3, lc3, by rw [← hm]⟩, ?_, hr.later (by omega)⟩
                  · rcases List.mem_append.1 hx with e | e
                    · exact HTM.out x e
                    · obtain ⟨o, -, rfl⟩ := List.mem_map.1 e
                      exact ⟨by show (0 : Int) ≤ (i : Int); omega, by show (i : Int) ≤ 80; omega⟩
                  · rw [← hm]; have := HM3'.out; have := HOL.out; omega
                have HFN := Lib.hid hfin
                clear hfin
                go_wp2_with fail
                go_roundw
                case rel => exact ⟨i + 1, by go_num, by omega, HFN⟩
                case measure => simp [intOf]; omega
          · have t0 : decide ((i : Int) < 80) = false := decide_eq_false (by omega)
            obtain rfl : i = 80 := by omega
            have hdone := HWK.out.done HKB.out.1 (by have := HKB.out; omega) (by have := HKB.out; omega)
            obtain ⟨pm, hpm⟩ := HWK.out.par
            rw [hdone.1, ← HM1.out] at hpm
            have HPM : Hid (m1 = 2 * pm) := by show m1 = 2 * pm; simpa using hpm
            have hl6 : D'.l.length = 0 := by rw [HOK'.out.len]; have := congrArg List.length hdone.2; simpa [SD.t] using this
            have hk6 : D'.works.length = 0 := by have := congrArg List.length hdone.1; simpa [SD.t] using this
            have hsr := HRI.out.sr
            have HWT : Hid (∀ W, Below wr.heap.size wr W → _) := fun W hb => waiting_any (hsr.below hb)
            have HWKG : Hid (∀ W, Below wr.heap.size wr W → _) := fun W hb => working_any (hsr.below hb)
            rw [hl6] at HWT
            rw [hk6] at HWKG
            have HR := Lib.hid HRI.out.r
            have HBF := Lib.hid (run_below HB2.out HN2.out HRI.out.mv)
            have HLV : Hid (∀ W, Below wr.heap.size wr W → Calls Tryd.prog 17 #[] W fun e w' => e = .returned (.bool true) ∧ Below W.heap.size W w') := fun W hb => lives_any (HM.out.below HM.out.lt (btrans HBF.out hb))
            have HZW : Hid (∀ W, Below wr.heap.size wr W → W.cell? ⟨W1.heap.size, 2, none⟩ = some (.int .i64 s.work)) := fun W hb => by
              have hl9 : W1.heap.size < wr.heap.size := Nat.lt_of_lt_of_le HL2.out HRI.out.mv.1.size
              exact block_cell (((hb.block _ hl9).trans (HRI.out.mv.keep0 HW0.out HL2.out)).trans HZ2.out) 2 _ rfl
            have HCL : Hid (∀ (i : Nat) (x : Ou × Int), all[i]? = some x → ∃ g off, la1 = some ⟨g, off, none⟩ ∧ ∀ W, Below wr.heap.size wr W → ∀ j u, (seenCells x)[j]? = some u → W.cell? ⟨g, off + i * 13 + j, none⟩ = some u) := fun i x hx => by
              obtain ⟨g, off, lc', e1, e2, hcl⟩ := HR.out.cellsL (by have := (List.getElem?_eq_some_iff.1 hx).1; omega)
              rw [← HM1.out] at e1
              injection e1 with e1 e3 e4
              exact ⟨g, off, e1, fun W hb j u hj => hcl W (hb.block _ (HR.out.lt g e2)) i x hx j u hj⟩
            obtain ⟨W3, hW3⟩ : ∃ W3, W3 = wr := ⟨_, rfl⟩
            have HB0 : Hid (Below W3.heap.size W3 wr) := by show Below W3.heap.size W3 wr; rw [hW3]; exact Below.refl _ _
            rw [← hW3] at HWT HWKG HR HBF HLV HZW HCL
            have hal' : m1 ≤ 16000 := by omega
            clear hdone hpm hl6 hk6 hsr hW3 hal
            go_wp2_with fail
            go_loopw [16] (fun vi wr => ∃ i : Nat, vi = .int .i64 i ∧ i ≤ m1 ∧ Below W3.heap.size W3 wr) (fun vi _ => (m1 - intOf vi).toNat)
            case atStart => exact ⟨0, rfl, Nat.zero_le _, HB0.out⟩
            case round =>
              obtain ⟨i, rfl, hi, hbi⟩ := hrel
              have HBI := Lib.hid hbi
              clear hbi
              by_cases him : i < m1
              · have t0 : decide ((i : Int) < (m1 : Int)) = true := decide_eq_true (by omega)
                obtain ⟨x, hx⟩ : ∃ x, all[i]? = some x := ⟨_, List.getElem?_eq_getElem (by have := HM1.out; omega)⟩
                obtain ⟨g, off, rfl, hp⟩ := HCL.out i x hx
                have HP := Lib.hid hp
                have HXM := Lib.hid (List.mem_of_getElem? hx)
                clear hp hx
                go_wp2_with fail
                go_loopw [17] (fun vk wr2 => ∃ kk : Nat, vk = .int .i64 kk ∧ kk ≤ i ∧ Below W3.heap.size W3 wr2) (fun vk _ => (i - intOf vk).toNat)
                case atStart => exact ⟨0, rfl, Nat.zero_le _, HBI.out⟩
                case round =>
                  obtain ⟨kk, rfl, hkk, hbk⟩ := hrel
                  have HBK := Lib.hid hbk
                  clear hbk
                  by_cases hki : kk < i
                  · have t0 : decide ((kk : Int) < (i : Int)) = true := decide_eq_true (by omega)
                    obtain ⟨y, hy⟩ : ∃ y, all[kk]? = some y := ⟨_, List.getElem?_eq_getElem (by have := HM1.out; omega)⟩
                    obtain ⟨g3, off3, e3, hq3⟩ := HCL.out kk y hy
                    injection e3 with e3
                    injection e3 with e4 e5 _
                    subst e4 e5
                    have hq := hq3 wr HBK.out
                    have hp := HP.out wr HBK.out
                    have q0 : wr.cell? ⟨g, off + kk * 13, none⟩ = some (.int .i64 y.1.what) := hq 0 _ rfl
                    have q1 : wr.cell? ⟨g, off + kk * 13 + 1, none⟩ = some (.int .i64 y.1.c.req) := hq 1 _ rfl
                    have q2 : wr.cell? ⟨g, off + kk * 13 + 2, none⟩ = some (.string y.1.c.call) := hq 2 _ rfl
                    have q3 : wr.cell? ⟨g, off + kk * 13 + 3, none⟩ = some (.int .i64 y.1.c.try_) := hq 3 _ rfl
                    have q4 : wr.cell? ⟨g, off + kk * 13 + 4, none⟩ = some (.bool y.1.c.idem) := hq 4 _ rfl
                    have q5 : wr.cell? ⟨g, off + kk * 13 + 5, none⟩ = some (.bool y.1.c.shadow) := hq 5 _ rfl
                    have q6 : wr.cell? ⟨g, off + kk * 13 + 6, none⟩ = some (.int .i64 y.1.c.dl) := hq 6 _ rfl
                    have q7 : wr.cell? ⟨g, off + kk * 13 + 7, none⟩ = some (.int .i64 y.1.c.purse) := hq 7 _ rfl
                    have q8 : wr.cell? ⟨g, off + kk * 13 + 8, none⟩ = some (.int .i64 y.1.c.ver) := hq 8 _ rfl
                    have q9 : wr.cell? ⟨g, off + kk * 13 + 9, none⟩ = some (.int .i64 y.1.c.prio) := hq 9 _ rfl
                    have q10 : wr.cell? ⟨g, off + kk * 13 + 10, none⟩ = some (.bool y.1.eff) := hq 10 _ rfl
                    have q11 : wr.cell? ⟨g, off + kk * 13 + 11, none⟩ = some (.int .i64 y.1.e) := hq 11 _ rfl
                    have q12 : wr.cell? ⟨g, off + kk * 13 + 12, none⟩ = some (.int .i64 y.2) := hq 12 _ rfl
                    have p0 : wr.cell? ⟨g, off + i * 13, none⟩ = some (.int .i64 x.1.what) := hp 0 _ rfl
                    have p1 : wr.cell? ⟨g, off + i * 13 + 1, none⟩ = some (.int .i64 x.1.c.req) := hp 1 _ rfl
                    have p2 : wr.cell? ⟨g, off + i * 13 + 2, none⟩ = some (.string x.1.c.call) := hp 2 _ rfl
                    have p3 : wr.cell? ⟨g, off + i * 13 + 3, none⟩ = some (.int .i64 x.1.c.try_) := hp 3 _ rfl
                    have p4 : wr.cell? ⟨g, off + i * 13 + 4, none⟩ = some (.bool x.1.c.idem) := hp 4 _ rfl
                    have p5 : wr.cell? ⟨g, off + i * 13 + 5, none⟩ = some (.bool x.1.c.shadow) := hp 5 _ rfl
                    have p6 : wr.cell? ⟨g, off + i * 13 + 6, none⟩ = some (.int .i64 x.1.c.dl) := hp 6 _ rfl
                    have p7 : wr.cell? ⟨g, off + i * 13 + 7, none⟩ = some (.int .i64 x.1.c.purse) := hp 7 _ rfl
                    have p8 : wr.cell? ⟨g, off + i * 13 + 8, none⟩ = some (.int .i64 x.1.c.ver) := hp 8 _ rfl
                    have p9 : wr.cell? ⟨g, off + i * 13 + 9, none⟩ = some (.int .i64 x.1.c.prio) := hp 9 _ rfl
                    have p10 : wr.cell? ⟨g, off + i * 13 + 10, none⟩ = some (.bool x.1.eff) := hp 10 _ rfl
                    have p11 : wr.cell? ⟨g, off + i * 13 + 11, none⟩ = some (.int .i64 x.1.e) := hp 11 _ rfl
                    have p12 : wr.cell? ⟨g, off + i * 13 + 12, none⟩ = some (.int .i64 x.2) := hp 12 _ rfl
                    have wk := HZW.out wr HBK.out
                    have i1 : (0 : Int) ≤ (i : Int) := by omega
                    have i2 : (i : Int) < (m1 : Int) := by omega
                    have i3 : (0 : Int) ≤ (kk : Int) := by omega
                    have i4 : (kk : Int) < (m1 : Int) := by omega
                    have HYM := Lib.hid (List.mem_of_getElem? hy)
                    clear hy hq3 hq hp
                    by_cases hy1 : y.1.what = 1
                    · have u1 : (y.1.what == 1) = true := by simp [hy1]
                      by_cases hx2 : x.1.what = 2
                      · have u2 : (x.1.what == 2) = true := by simp [hx2]
                        by_cases hc : x.1.c = y.1.c
                        · have hj := HWK.out.just HXM.out HYM.out hx2 hy1 hc
                          have hKe : K = kz * s.work := by rw [HK.out, Int.mul_comm]
                          have hyb := HTM.out y HYM.out
                          have hxb := HTM.out x HXM.out
                          have hkb := HKB.out
                          have g2 : IntKind.i64.wrap (kz * s.work) = kz * s.work := IntWalk.i64_in _ (by omega)
                          have g3 : IntKind.i64.wrap (y.2 + kz * s.work) = y.2 + kz * s.work := IntWalk.i64_in _ (by omega)
                          have u3 : (x.2 == y.2 + kz * s.work) = true := by rw [hj, hKe]; simp
                          rw [hc] at p1 p2 p3 p4 p5 p6 p7 p8 p9
                          clear hj hKe hyb hxb hkb hc
                          go_upto_region 26 with fail
                          go_quiet (fail)
                          go_wp2_with fail
                          go_roundw
                          case rel => exact ⟨kk + 1, by go_num, by omega, below_drewN HBK.out⟩
                          case measure => simp [intOf]; omega
                        · by_cases n0 : x.1.c.req = y.1.c.req
                          · by_cases n1 : x.1.c.call.toList = y.1.c.call.toList
                            · by_cases n2 : x.1.c.try_ = y.1.c.try_
                              · by_cases n3 : x.1.c.idem = y.1.c.idem
                                · by_cases n4 : x.1.c.shadow = y.1.c.shadow
                                  · by_cases n5 : x.1.c.dl = y.1.c.dl
                                    · by_cases n6 : x.1.c.purse = y.1.c.purse
                                      · by_cases n7 : x.1.c.ver = y.1.c.ver
                                        · by_cases n8 : x.1.c.prio = y.1.c.prio
                                          · exact absurd (by
                                              have hcc : x.1.c.call = y.1.c.call := by rw [ByteArray.toList_eq, ByteArray.toList_eq] at n1; exact ByteArray.ext (Array.toList_inj.1 n1)
                                              revert n0 hcc n2 n3 n4 n5 n6 n7 n8
                                              generalize x.1.c = a
                                              generalize y.1.c = b
                                              intro n0 hcc n2 n3 n4 n5 n6 n7 n8
                                              cases a; cases b
                                              simp only at n0 hcc n2 n3 n4 n5 n6 n7 n8
                                              subst n0 hcc n2 n3 n4 n5 n6 n7 n8
                                              rfl) hc
                                          · have u3 : (x.1.c.prio == y.1.c.prio) = false := beq_eq_false_iff_ne.2 n8
                                            clear hc
                                            go_upto_region 26 with fail
                                            go_quiet (fail)
                                            go_wp2_with fail
                                            go_roundw
                                            case rel => exact ⟨kk + 1, by go_num, by omega, below_drewN HBK.out⟩
                                            case measure => simp [intOf]; omega
                                        · have u3 : (x.1.c.ver == y.1.c.ver) = false := beq_eq_false_iff_ne.2 n7
                                          clear hc
                                          go_upto_region 26 with fail
                                          go_quiet (fail)
                                          go_wp2_with fail
                                          go_roundw
                                          case rel => exact ⟨kk + 1, by go_num, by omega, below_drewN HBK.out⟩
                                          case measure => simp [intOf]; omega
                                      · have u3 : (x.1.c.purse == y.1.c.purse) = false := beq_eq_false_iff_ne.2 n6
                                        clear hc
                                        go_upto_region 26 with fail
                                        go_quiet (fail)
                                        go_wp2_with fail
                                        go_roundw
                                        case rel => exact ⟨kk + 1, by go_num, by omega, below_drewN HBK.out⟩
                                        case measure => simp [intOf]; omega
                                    · have u3 : (x.1.c.dl == y.1.c.dl) = false := beq_eq_false_iff_ne.2 n5
                                      clear hc
                                      go_upto_region 26 with fail
                                      go_quiet (fail)
                                      go_wp2_with fail
                                      go_roundw
                                      case rel => exact ⟨kk + 1, by go_num, by omega, below_drewN HBK.out⟩
                                      case measure => simp [intOf]; omega
                                  · have u3 : (x.1.c.shadow == y.1.c.shadow) = false := beq_eq_false_iff_ne.2 n4
                                    clear hc
                                    go_upto_region 26 with fail
                                    go_quiet (fail)
                                    go_wp2_with fail
                                    go_roundw
                                    case rel => exact ⟨kk + 1, by go_num, by omega, below_drewN HBK.out⟩
                                    case measure => simp [intOf]; omega
                                · have u3 : (x.1.c.idem == y.1.c.idem) = false := beq_eq_false_iff_ne.2 n3
                                  clear hc
                                  go_upto_region 26 with fail
                                  go_quiet (fail)
                                  go_wp2_with fail
                                  go_roundw
                                  case rel => exact ⟨kk + 1, by go_num, by omega, below_drewN HBK.out⟩
                                  case measure => simp [intOf]; omega
                              · have u3 : (x.1.c.try_ == y.1.c.try_) = false := beq_eq_false_iff_ne.2 n2
                                clear hc
                                go_upto_region 26 with fail
                                go_quiet (fail)
                                go_wp2_with fail
                                go_roundw
                                case rel => exact ⟨kk + 1, by go_num, by omega, below_drewN HBK.out⟩
                                case measure => simp [intOf]; omega
                            · have u3 : (x.1.c.call.toList == y.1.c.call.toList) = false := beq_eq_false_iff_ne.2 n1
                              clear hc
                              go_upto_region 26 with fail
                              go_quiet (fail)
                              go_wp2_with fail
                              go_roundw
                              case rel => exact ⟨kk + 1, by go_num, by omega, below_drewN HBK.out⟩
                              case measure => simp [intOf]; omega
                          · have u3 : (x.1.c.req == y.1.c.req) = false := beq_eq_false_iff_ne.2 n0
                            clear hc
                            go_upto_region 26 with fail
                            go_quiet (fail)
                            go_wp2_with fail
                            go_roundw
                            case rel => exact ⟨kk + 1, by go_num, by omega, below_drewN HBK.out⟩
                            case measure => simp [intOf]; omega
                      · have u2 : (x.1.what == 2) = false := by simp [hx2]
                        go_upto_region 26 with fail
                        go_quiet (fail)
                        go_wp2_with fail
                        go_roundw
                        case rel => exact ⟨kk + 1, by go_num, by omega, below_drewN HBK.out⟩
                        case measure => simp [intOf]; omega
                    · have u1 : (y.1.what == 1) = false := by simp [hy1]
                      go_upto_region 26 with fail
                      go_quiet (fail)
                      go_wp2_with fail
                      go_roundw
                      case rel => exact ⟨kk + 1, by go_num, by omega, below_drewN HBK.out⟩
                      case measure => simp [intOf]; omega
                  · have t0 : decide ((kk : Int) < (i : Int)) = false := decide_eq_false (by omega)
                    go_wp2_with fail
                    go_roundw
                    case rel => exact ⟨i + 1, by go_num, by omega, HBK.out⟩
                    case measure => simp [intOf]; omega
              · have t0 : decide ((i : Int) < (m1 : Int)) = false := decide_eq_false (by omega)
                have HWT2 := Lib.hid (HWT.out wr HBI.out)
                have HWK2 := Lib.hid (HWKG.out wr HBI.out)
                have HLV2 := Lib.hid (HLV.out wr HBI.out)
                have HBR := Lib.hid (btrans HBF.out HBI.out)
                have e1 : ((m1 : Int)).tmod 2 = 0 := by have := HPM.out; rw [Int.tmod_eq_emod_of_nonneg (by omega)]; omega
                go_wp2_with fail
                refine HWT2.out.mono ?_
                rintro e wq ⟨rfl, hwq⟩
                rw [hwq]
                clear hwq wq
                go_wp2_with fail
                refine HWK2.out.mono ?_
                rintro e wq ⟨rfl, hwq⟩
                rw [hwq]
                clear hwq wq
                go_wp2_with fail
                refine HLV2.out.mono ?_
                rintro e W13 ⟨rfl, b13⟩
                go_wp2_with fail
                go_ret
                exact ⟨rfl, btrans HBR.out b13⟩

end Go.Proofs.YtchjlkfkfcmhlaaDoor
