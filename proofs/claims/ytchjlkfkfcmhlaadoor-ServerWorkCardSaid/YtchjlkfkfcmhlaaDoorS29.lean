/- A server: what ends (printed by wip/tools/gen29s.py). -/
import Derived.Test.YtchjlkfkfcmhlaaDoorS28
namespace Go.Proofs.YtchjlkfkfcmhlaaDoor
open Go.RowKit
attribute [local go_sem ↓] Go.wp_at_zero Go.wp_at_succ

theorem wk_cells {w : World} {v : Value} {l : List Wk} {sb : Option Nat} (h : wkK.At w v l sb) (hp : 0 < l.length) :
    ∃ g off lc, v = .slice (some ⟨g, off, none⟩) l.length lc ∧ sb = some g ∧ ∀ W : World, W.heap[g]? = w.heap[g]? → ∀ (k : Nat) (a : Wk), l[k]? = some a → (∀ j u, 0 < j → (wkCells a)[j]? = some u → W.cell? ⟨g, off + k * 10 + j, none⟩ = some u) ∧ W.cell? ⟨g, off + k * 10, none⟩ = some (.int .i64 a.1.req) := by
  obtain ⟨g, off, lc, h1, h2, h3⟩ := h.cells hp
  refine ⟨g, off, lc, h1, h2, fun W hW k a hk => ⟨fun j u _ hj => ?_, ?_⟩⟩
  · rw [Nat.add_assoc]; exact h3 W hW k a hk j u hj
  · exact h3 W hW k a hk 0 _ rfl

def EndL (w : World) (sb : Nat) (hz now sick : Int) (s : Sv) (D : SD) (i : Nat) (vo von : Value) (wr : World) : Prop :=
  ∃ on ob1 outs ob2 n E kt who, EndR hz now sick D.ended D.eff (D.works.take i) on outs n E ∧ kt + on.length ≤ D.kt + i ∧ (∃ la lc, von = .slice la on.length lc) ∧ (∃ la lc, vo = .slice la outs.length lc) ∧ EI w sb hz now s D { D with ended := n, eff := E, kt := kt, who := who } on ob1 outs ob2 von vo wr

set_option maxRecDepth 8000 in
set_option maxHeartbeats 8000000 in
theorem end_any {w : World} {sb : Nat} {hz now : Int} {s : Sv} {D : SD} {k : Nat} (h : SR w sb hz s now D) (hG : Glob w D) (hok : D.Ok now k) (hk : k ≤ 100) (hn : 0 ≤ now ∧ now ≤ 1000000) (hz1 : 1 ≤ hz) (sick : Int) :
    Calls Tryd.prog 30 #[.pointer (some ⟨sb, 0, none⟩), .int .i64 now, .int .i64 sick] w (EndPost w sb hz now sick s D) := by
  obtain ⟨la0, lc0, hv⟩ := h.wk.form
  obtain ⟨m, hm⟩ : ∃ m, m = D.works.length := ⟨_, rfl⟩
  rw [← hm] at hv
  have hm1 : m ≤ 100 := by have := hok.sum; omega
  obtain ⟨W1, hmk0, hr1, hb1⟩ := wkK.made w m (by omega)
  have hmk : (Instr.makeSlice 60 (.int .i64 0) (.int .i64 m)).run Tryd.prog w = .ok (.slice (some ⟨w.heap.size, 0, none⟩) 0 m) W1 := hmk0
  clear hmk0
  have c3 : w.cell? ⟨sb, 3, none⟩ = some (.slice la0 m lc0) := by rw [← hv]; exact h.cell rfl
  have h1 := h.below hb1
  have d3 : W1.cell? ⟨sb, 3, none⟩ = some (.slice la0 m lc0) := bkeep hb1 c3
  have hst : EndL w sb hz now sick s D 0 (.slice none 0 0) (.slice (some ⟨w.heap.size, 0, none⟩) 0 m) W1 :=
    ⟨[], _, [], none, D.ended, D.eff, D.kt, D.who, by rw [List.take_zero]; exact .start, Nat.le_refl _, ⟨_, _, rfl⟩, ⟨_, _, rfl⟩, h1, (Mv.refl w D).below hb1, hr1,
      fun g e => (by cases e; exact ⟨Classical.byContradiction fun hne => by have := h.lt _ hne; omega, Nat.le_refl _⟩), ouK.nil _, (fun g e => by cases e), fun g _ e => by cases e⟩
  have HST := Lib.hid hst
  have HEACH := Lib.hid (fun a w => each_any sick a w)
  have HV := Lib.hid hv
  have HM := Lib.hid hm
  have HG := Lib.hid hG
  have HOK := Lib.hid hok
  have HNW := Lib.hid hn
  have HZ := Lib.hid hz1
  have HB2 : Hid (D.kt + m ≤ k) := by show D.kt + m ≤ k; have := hok.sum; omega
  have HB := Lib.hid (show D.ended + m ≤ k by have := hok.sum2; omega)
  have HE0 := Lib.hid hok.ended
  clear hv hr1 hb1 h h1 hst hG hok hn hz1 hm
  go_enter Tryd.func30, Tryd.ntmps30
  go_wp2_with fail
  go_loopw [7, 8, 24] (fun vo von vi wr => ∃ i : Nat, vi = .int .i64 i ∧ i ≤ m ∧ Hid (EndL w sb hz now sick s D i vo von wr)) (fun _ _ vi _ => (m - intOf vi).toNat)
  case atStart => exact ⟨0, rfl, Nat.zero_le _, HST.out⟩
  case round =>
    obtain ⟨i, rfl, hi, hl⟩ := hrel
    obtain ⟨on, ob1, outs, ob2, n, E, kt, who, hER, hkt, ⟨la1, lc1, rfl⟩, ⟨la2, lc2, rfl⟩, hEI⟩ := hl.out
    obtain ⟨m1, hm1'⟩ : ∃ m1, m1 = on.length := ⟨_, rfl⟩
    obtain ⟨m2, hm2'⟩ : ∃ m2, m2 = outs.length := ⟨_, rfl⟩
    have hcn := hER.count
    have hco := hER.outs
    rw [← hm1'] at hkt hEI hcn ⊢
    rw [← hm2'] at hEI ⊢
    have hti : (D.works.take i).length = i := by rw [List.length_take, ← HM.out]; omega
    rw [hti] at hcn hco
    have HCO : Hid (m2 ≤ i) := hm2' ▸ hco
    have HER := Lib.hid hER
    have HEI := Lib.hid hEI
    have HM1 := Lib.hid hm1'
    have HM2 := Lib.hid hm2'
    have HKT := Lib.hid hkt
    have HCN := Lib.hid hcn
    clear hl hER hkt hEI hm1' hm2' hcn hco hti
    by_cases him : i < m
    · have t0 : decide ((i : Int) < (m : Int)) = true := decide_eq_true (by omega)
      obtain ⟨⟨c, left⟩, hx⟩ : ∃ x, D.works[i]? = some x := ⟨_, List.getElem?_eq_getElem (by have := HM.out; omega)⟩
      have hmem := List.mem_of_getElem? hx
      have hleft := HOK.out.left _ hmem
      have hcc := HOK.out.wc _ hmem
      dsimp only at hleft hcc
      obtain ⟨g, off, lc', e1, e2, hcl⟩ := wk_cells HEI.out.sr.wk (by show 0 < D.works.length; have := HM.out; omega)
      obtain ⟨q, q0⟩ := hcl wr rfl i _ hx
      dsimp only at e1 q0
      rw [HV.out] at e1
      injection e1 with e1 e3 e4
      subst e1
      have q1 := q 1 _ (by decide) rfl
      have q2 := q 2 _ (by decide) rfl
      have q3 := q 3 _ (by decide) rfl
      have q4 := q 4 _ (by decide) rfl
      have q5 := q 5 _ (by decide) rfl
      have q6 := q 6 _ (by decide) rfl
      have q7 := q 7 _ (by decide) rfl
      have q8 := q 8 _ (by decide) rfl
      have q9 := q 9 _ (by decide) rfl
      have i1 : (0 : Int) ≤ (i : Int) := by omega
      have i2 : (i : Int) < (m : Int) := by omega
      have g1 : IntKind.i64.wrap (left - 1) = left - 1 := IntWalk.i64_in _ (by omega)
      have hTK : D.works.take (i + 1) = D.works.take i ++ [(c, left)] := by rw [List.take_add_one, hx]; rfl
      obtain ⟨Wb, hWb⟩ : ∃ Wb, wr.alloc (.cells #[.int .i64 c.req, .string c.call, .int .i64 c.try_, .bool c.idem, .bool c.shadow, .int .i64 c.dl, .int .i64 c.purse, .int .i64 c.ver, .int .i64 c.prio, .int .i64 (left - 1)] 94) = Wb := ⟨_, rfl⟩
      have bb : Below wr.heap.size wr Wb := by rw [← hWb]; exact (Below.refl _ _).alloc (Nat.le_refl _) _
      have zb : Wb.heap[wr.heap.size]? = some (.cells #[.int .i64 c.req, .string c.call, .int .i64 c.try_, .bool c.idem, .bool c.shadow, .int .i64 c.dl, .int .i64 c.purse, .int .i64 c.ver, .int .i64 c.prio, .int .i64 (left - 1)] 94 (0, 0)) := by rw [← hWb]; exact heap_alloc_new wr _
      have hEb := HEI.out.below bb
      have hfree := HEI.out.free
      have k0 := block_cell zb 0 _ rfl
      have k1 := block_cell zb 1 _ rfl
      have k2 := block_cell zb 2 _ rfl
      have k3 := block_cell zb 3 _ rfl
      have k4 := block_cell zb 4 _ rfl
      have k5 := block_cell zb 5 _ rfl
      have k6 := block_cell zb 6 _ rfl
      have k7 := block_cell zb 7 _ rfl
      have k8 := block_cell zb 8 _ rfl
      have k9 := block_cell zb 9 _ rfl
      have HX := Lib.hid hx
      have HTK := Lib.hid hTK
      have HLF := Lib.hid hleft
      have HEB := Lib.hid hEb
      have HFR : Hid (who wr.heap.size = 0) := hfree
      have HZB := Lib.hid zb
      have HCC := Lib.hid hcc
      clear hx hmem hleft hcc e2 e3 e4 hcl q hTK bb zb hEb hfree
      by_cases hlf : 1 < left
      · have t1 : decide (1 < left) = true := decide_eq_true (by omega)
        obtain ⟨WA, hWA⟩ : ∃ WA, Wb.alloc (.cells #[.int .i64 c.req, .string c.call, .int .i64 c.try_, .bool c.idem, .bool c.shadow, .int .i64 c.dl, .int .i64 c.purse, .int .i64 c.ver, .int .i64 c.prio, .int .i64 (left - 1)] 94) = WA := ⟨_, rfl⟩
        have bA : Below Wb.heap.size Wb WA := by rw [← hWA]; exact (Below.refl _ _).alloc (Nat.le_refl _) _
        have zA : WA.heap[Wb.heap.size]? = some (.cells (wkCells (c, left - 1)).toArray 94 (0, 0)) := by rw [← hWA]; exact heap_alloc_new Wb _
        obtain ⟨la3, lc3, ob3, W9, happ, hE9, -⟩ := (HEB.out.below bA).push1 HM1.out (by have := HM1.out; have := HCN.out; have := HB.out; have := HE0.out; omega) zA 1
        have HF : Hid (EndL w sb hz now sick s D (i + 1) (.slice la2 m2 lc2) (.slice la3 (m1 + 1) lc3) W9) :=
          ⟨on ++ [(c, left - 1)], ob3, outs, ob2, n, E, kt, who, by rw [HTK.out]; exact .on HER.out hlf, by rw [List.length_append, ← HM1.out]; have := HKT.out; simp only [List.length_cons, List.length_nil]; omega, ⟨la3, lc3, by rw [List.length_append, ← HM1.out]; rfl⟩, ⟨la2, lc2, by rw [← HM2.out]⟩, hE9⟩
        clear bA zA hE9 hlf
        go_wp2_with (at_builtin; refine wpList_run (by rfl) (exec_append _ _ _ _ (by rfl) _ _ (by rfl) (by rfl) happ) ?_)
        go_roundw
        case rel => exact ⟨i + 1, by go_num, by omega, HF⟩
        case measure => simp [intOf]; omega
      · have t1 : decide (1 < left) = false := decide_eq_false (by omega)
        have HLE : Hid (left ≤ 1) := by show left ≤ 1; omega
        have hnb : 0 ≤ n ∧ n ≤ 1000 := by have := HCN.out; have := HB.out; have := HE0.out; omega
        have g2 : IntKind.i64.wrap (n + 1) = n + 1 := IntWalk.i64_in _ (by omega)
        have c5 : Wb.cell? ⟨sb, 5, none⟩ = some (.int .i64 n) := HEB.out.sr.cell rfl
        have u5 := HEB.out.sr.free 5
        have e5 := setCell_block Wb sb 5 _ _ (0, 0) (.int .i64 (n + 1)) HEB.out.sr.blk
        have f5 := Fr.setCell (fun b => b = sb) Wb ⟨sb, 5, none⟩ (.int .i64 (n + 1)) rfl
        obtain ⟨Wc, hWc⟩ : ∃ Wc, Wb.setCell ⟨sb, 5, none⟩ (.int .i64 (n + 1)) = Wc := ⟨_, rfl⟩
        rw [hWc] at e5 f5
        obtain ⟨sr5, mv5⟩ := HEB.out.sr.cells f5 D.last (n + 1) D.down D.again D.up e5
        dsimp only at sr5 mv5
        have hEc := HEB.out.move sr5 mv5
        have hlt := (Array.getElem?_eq_some_iff.1 HZB.out).1
        have hN := (mv5.keep0 HFR.out hlt).trans HZB.out
        have k5 : Wc.cell? ⟨sb, 5, none⟩ = some (.int .i64 (n + 1)) := sr5.cell rfl
        have HEC := Lib.hid hEc
        have HLT : Hid (wr.heap.size < Wc.heap.size) := Nat.lt_of_lt_of_le hlt f5.size
        have HNC := Lib.hid hN
        have x0 := block_cell hN 0 _ rfl
        have x1 := block_cell hN 1 _ rfl
        have x2 := block_cell hN 2 _ rfl
        have x3 := block_cell hN 3 _ rfl
        have x4 := block_cell hN 4 _ rfl
        have x5 := block_cell hN 5 _ rfl
        have x6 := block_cell hN 6 _ rfl
        have x7 := block_cell hN 7 _ rfl
        have x8 := block_cell hN 8 _ rfl
        have x9 := block_cell hN 9 _ rfl
        have HGC := Lib.hid (HG.out.mv hEc.mv)
        clear hnb e5 f5 sr5 mv5 hEc hlt hN hlf
        go_wp2_with fail
        refine (HEACH.out (n + 1) _).mono ?_
        rintro e w' ⟨rfl, hw⟩
        rw [hw]
        clear hw w'
        cases hea : each sick (n + 1) with
        | true =>
          obtain ⟨WA, hWA⟩ : ∃ WA, Wc.alloc (.cells #[.int .i64 3, .int .i64 c.req, .string c.call, .int .i64 c.try_, .bool c.idem, .bool c.shadow, .int .i64 c.dl, .int .i64 c.purse, .int .i64 c.ver, .int .i64 c.prio, .bool false, .int .i64 35] 40) = WA := ⟨_, rfl⟩
          have bA : Below Wc.heap.size Wc WA := by rw [← hWA]; exact (Below.refl _ _).alloc (Nat.le_refl _) _
          have zA : WA.heap[Wc.heap.size]? = some (.cells (ouCells ⟨3, c, false, 35⟩).toArray 40 (0, 0)) := by rw [← hWA]; exact heap_alloc_new Wc _
          obtain ⟨la3, lc3, ob3, W9, happ, hE9, -⟩ := (HEC.out.below bA).push2 HM2.out (by have := HM2.out; have := HCO.out; omega) zA 1
          have HF : Hid (EndL w sb hz now sick s D (i + 1) (.slice la3 (m2 + 1) lc3) (.slice la1 m1 lc1) W9) :=
            ⟨on, ob1, outs ++ [⟨3, c, false, 35⟩], ob3, n + 1, E, kt, who, by rw [HTK.out]; exact .sick HER.out HLE.out hea, by have := HKT.out; rw [← HM1.out]; omega, ⟨la1, lc1, by rw [← HM1.out]⟩, ⟨la3, lc3, by rw [List.length_append, ← HM2.out]; rfl⟩, hE9⟩
          clear bA zA hE9 hea
          go_wp2_with (at_builtin; refine wpList_run (by rfl) (exec_append _ _ _ _ (by rfl) _ _ (by rfl) (by rfl) happ) ?_)
          go_roundw
          case rel => exact ⟨i + 1, by go_num, by omega, HF⟩
          case measure => simp [intOf]; omega
        | false =>
          have HEA := Lib.hid hea
          have hsr := HEC.out.sr.below (w' := Wc.drew) ((Below.refl _ _).drew)
          have hgl := HGC.out.mv ((Mv.refl Wc _).below ((Below.refl _ _).drew))
          have heff := effect_any hsr hgl c (by have := HCC.out; omega) HNW.out (by have := HKT.out; have := HB2.out; show kt ≤ 900; omega) HZ.out
          unfold cxV cxCells at heff
          have HEFF := Lib.hid heff
          clear hea hsr hgl heff
          go_wp2_with fail
          refine wp_region_split_any 10 (fun W => W.cell? ⟨wr.heap.size, 0, none⟩ = some (.int .i64 c.req) ∧ W.cell? ⟨wr.heap.size, 1, none⟩ = some (.string c.call) ∧ W.cell? ⟨wr.heap.size, 2, none⟩ = some (.int .i64 c.try_) ∧ W.cell? ⟨wr.heap.size, 3, none⟩ = some (.bool c.idem) ∧ W.cell? ⟨wr.heap.size, 4, none⟩ = some (.bool c.shadow) ∧ W.cell? ⟨wr.heap.size, 5, none⟩ = some (.int .i64 c.dl) ∧ W.cell? ⟨wr.heap.size, 6, none⟩ = some (.int .i64 c.purse) ∧ W.cell? ⟨wr.heap.size, 7, none⟩ = some (.int .i64 c.ver) ∧ W.cell? ⟨wr.heap.size, 8, none⟩ = some (.int .i64 c.prio)) (by kernel_rfl) (by kernel_rfl) ⟨x0, x1, x2, x3, x4, x5, x6, x7, x8⟩ (fun K0 hK0 hHeld => ?_)
          simp only [List.take_succ_cons, List.take_zero]
          refine wpAnyH_take (i := 0) (v := ?_) rfl (by kernel_rfl) (by kernel_rfl) (by kernel_rfl) (fun _ _ _ h => h) (Or.inl ⟨by kernel_rfl, ?_⟩) (by assumption) ?_
          rotate_left
          · (intro w hSw; (try dsimp only at hSw); go_simp; (try rw [if_neg (by (try simp only [ByteArray.size_append]); omega)]); (try with_reducible rfl))
          try simp only [Act.put]
          refine wpAnyH_take (i := 1) (v := ?_) rfl (by kernel_rfl) (by kernel_rfl) (by kernel_rfl) (fun _ _ _ h => h) (Or.inl ⟨by kernel_rfl, ?_⟩) (by assumption) ?_
          rotate_left
          · (intro w hSw; (try dsimp only at hSw); go_simp; (try rw [if_neg (by (try simp only [ByteArray.size_append]); omega)]); (try with_reducible rfl))
          try simp only [Act.put]
          refine wpAnyH_take (i := 2) (v := ?_) rfl (by kernel_rfl) (by kernel_rfl) (by kernel_rfl) (fun _ _ _ h => h) (Or.inl ⟨by kernel_rfl, ?_⟩) (by assumption) ?_
          rotate_left
          · (intro w hSw; (try dsimp only at hSw); go_simp; (try rw [if_neg (by (try simp only [ByteArray.size_append]); omega)]); (try with_reducible rfl))
          try simp only [Act.put]
          refine wpAnyH_take (i := 3) (v := ?_) rfl (by kernel_rfl) (by kernel_rfl) (by kernel_rfl) (fun _ _ _ h => h) (Or.inl ⟨by kernel_rfl, ?_⟩) (by assumption) ?_
          rotate_left
          · (intro w hSw; (try dsimp only at hSw); go_simp; (try rw [if_neg (by (try simp only [ByteArray.size_append]); omega)]); (try with_reducible rfl))
          try simp only [Act.put]
          refine wpAnyH_take (i := 4) (v := ?_) rfl (by kernel_rfl) (by kernel_rfl) (by kernel_rfl) (fun _ _ _ h => h) (Or.inl ⟨by kernel_rfl, ?_⟩) (by assumption) ?_
          rotate_left
          · (intro w hSw; (try dsimp only at hSw); go_simp; (try rw [if_neg (by (try simp only [ByteArray.size_append]); omega)]); (try with_reducible rfl))
          try simp only [Act.put]
          refine wpAnyH_take (i := 5) (v := ?_) rfl (by kernel_rfl) (by kernel_rfl) (by kernel_rfl) (fun _ _ _ h => h) (Or.inl ⟨by kernel_rfl, ?_⟩) (by assumption) ?_
          rotate_left
          · (intro w hSw; (try dsimp only at hSw); go_simp; (try rw [if_neg (by (try simp only [ByteArray.size_append]); omega)]); (try with_reducible rfl))
          try simp only [Act.put]
          refine wpAnyH_take (i := 6) (v := ?_) rfl (by kernel_rfl) (by kernel_rfl) (by kernel_rfl) (fun _ _ _ h => h) (Or.inl ⟨by kernel_rfl, ?_⟩) (by assumption) ?_
          rotate_left
          · (intro w hSw; (try dsimp only at hSw); go_simp; (try rw [if_neg (by (try simp only [ByteArray.size_append]); omega)]); (try with_reducible rfl))
          try simp only [Act.put]
          refine wpAnyH_ready (rs := [7]) (by kernel_rfl) (by simp) ?_
          refine AllReadyH.cons rfl (fun K hK => ?_) AllReadyH.nil
          go_simp
          refine HEFF.out.mono ?_
          rintro e W7 ⟨b, D7, rfl, sr7, mv7, E', kt', who', rfl, hkt', hE'⟩
          have mv7' := Mv.pre ((Below.refl Wc.heap.size Wc).drew) mv7
          have hE7 := HEC.out.move sr7 mv7'
          have hN7 := (mv7'.keep0 HFR.out HLT.out).trans HNC.out
          have HN7 := Lib.hid hN7
          have hS7 : ∀ W, Below W7.heap.size W7 W → (W.cell? ⟨wr.heap.size, 0, none⟩ = some (.int .i64 c.req) ∧ W.cell? ⟨wr.heap.size, 1, none⟩ = some (.string c.call) ∧ W.cell? ⟨wr.heap.size, 2, none⟩ = some (.int .i64 c.try_) ∧ W.cell? ⟨wr.heap.size, 3, none⟩ = some (.bool c.idem) ∧ W.cell? ⟨wr.heap.size, 4, none⟩ = some (.bool c.shadow) ∧ W.cell? ⟨wr.heap.size, 5, none⟩ = some (.int .i64 c.dl) ∧ W.cell? ⟨wr.heap.size, 6, none⟩ = some (.int .i64 c.purse) ∧ W.cell? ⟨wr.heap.size, 7, none⟩ = some (.int .i64 c.ver) ∧ W.cell? ⟨wr.heap.size, 8, none⟩ = some (.int .i64 c.prio)) := fun W hb => by
            have hh := (hb.block _ (Array.getElem?_eq_some_iff.1 HN7.out).1).trans HN7.out
            exact ⟨block_cell hh 0 _ rfl, block_cell hh 1 _ rfl, block_cell hh 2 _ rfl, block_cell hh 3 _ rfl, block_cell hh 4 _ rfl, block_cell hh 5 _ rfl, block_cell hh 6 _ rfl, block_cell hh 7 _ rfl, block_cell hh 8 _ rfl⟩
          have HS7 := Lib.hid hS7
          have HE7 := Lib.hid hE7
          have HR7 : Hid (EndR hz now sick D.ended D.eff (D.works.take (i + 1)) on (outs ++ [⟨2, c, b, 0⟩]) (n + 1) E') := by
            rw [HTK.out]
            rcases hE' with ⟨rfl, e2, e3⟩ | ⟨rfl, h2, h3, e2⟩ | ⟨rfl, h2, h3, e2, h4⟩
            · rw [e2]; exact .none HER.out HLE.out HEA.out e3
            · rw [e2]; exact .idem HER.out HLE.out HEA.out h2 h3
            · rw [e2]; exact .eff HER.out HLE.out HEA.out h2 h3 h4
          have HKT7 : Hid (kt' ≤ kt + 1) := hkt'
          clear hkt' hE' sr7 mv7 mv7' hE7 hN7 hS7
          refine hK.out _ _ (HS7.out _ (Below.refl _ _)) (fun hHeld => ?_)
          clear hK K
          try simp only [Act.put]
          refine wpAnyH_take (i := 8) (v := ?_) rfl (by kernel_rfl) (by kernel_rfl) (by kernel_rfl) (fun _ _ _ h => h) (Or.inl ⟨by kernel_rfl, ?_⟩) (by assumption) ?_
          rotate_left
          · (intro w hSw; (try dsimp only at hSw); go_simp; (try rw [if_neg (by (try simp only [ByteArray.size_append]); omega)]); (try with_reducible rfl))
          try simp only [Act.put]
          obtain ⟨WA, hWA⟩ : ∃ WA, W7.alloc (.cells #[.int .i64 2, .int .i64 c.req, .string c.call, .int .i64 c.try_, .bool c.idem, .bool c.shadow, .int .i64 c.dl, .int .i64 c.purse, .int .i64 c.ver, .int .i64 c.prio, .bool b, .int .i64 0] 40) = WA := ⟨_, rfl⟩
          have bA : Below W7.heap.size W7 WA := by rw [← hWA]; exact (Below.refl _ _).alloc (Nat.le_refl _) _
          have zA : WA.heap[W7.heap.size]? = some (.cells (ouCells ⟨2, c, b, 0⟩).toArray 40 (0, 0)) := by rw [← hWA]; exact heap_alloc_new W7 _
          refine wpAnyH_ready (rs := [9]) (by kernel_rfl) (by simp) ?_
          refine AllReadyH.cons rfl (fun K hK => ?_) AllReadyH.nil
          go_simp
          refine hK.out _ _ (HS7.out _ bA) (fun hHeld => ?_)
          clear hK K
          try simp only [Act.put]
          obtain ⟨la3, lc3, ob3, W9, happ, hE9, -⟩ := (HE7.out.below bA).push2 HM2.out (by have := HM2.out; have := HCO.out; omega) zA 1
          have HF : Hid (EndL w sb hz now sick s D (i + 1) (.slice la3 (m2 + 1) lc3) (.slice la1 m1 lc1) W9) :=
            ⟨on, ob1, outs ++ [⟨2, c, b, 0⟩], ob3, n + 1, E', kt', who', HR7.out, by have := HKT.out; have := HKT7.out; rw [← HM1.out]; omega, ⟨la1, lc1, by rw [← HM1.out]⟩, ⟨la3, lc3, by rw [List.length_append, ← HM2.out]; rfl⟩, hE9⟩
          clear bA zA hE9
          refine wpAnyH_done (by kernel_rfl) ?_ _
          simp only [Exit.then]
          refine hK0 _ _ ?_
          clear hK0 K0 hHeld
          try simp only [Act.put]
          refine wpList_run (by rfl) (exec_append _ _ _ _ (by rfl) _ _ (by rfl) (by rfl) happ) ?_
          go_wp2_with fail
          go_roundw
          case rel => exact ⟨i + 1, by go_num, by omega, HF⟩
          case measure => simp [intOf]; omega
    · have t0 : decide ((i : Int) < (m : Int)) = false := decide_eq_false (by omega)
      obtain rfl : i = m := by omega
      have sr := HEI.out.sr
      have c3' : wr.cell? ⟨sb, 3, none⟩ = some (.slice la0 i lc0) := by rw [← HV.out]; exact sr.cell rfl
      have u3 := sr.free 3
      have e9 := setCell_block wr sb 3 _ _ (0, 0) (.slice la1 m1 lc1) sr.blk
      have f9 := Fr.setCell (fun b => b = sb) wr ⟨sb, 3, none⟩ (.slice la1 m1 lc1) rfl
      obtain ⟨W9, hW9⟩ : ∃ W9, wr.setCell ⟨sb, 3, none⟩ (.slice la1 m1 lc1) = W9 := ⟨_, rfl⟩
      rw [hW9] at e9 f9
      have hsb : who sb = 1 := sr.own
      have hk9 : wkK.At W9 (.slice la1 m1 lc1) on ob1 := HEI.out.r1.keep fun g e => f9.block g (HEI.out.r1.lt g e) (fun e2 => by have := (HEI.out.o1 g e).1; rw [e2] at this; rw [show who sb = 0 from this] at hsb; cases hsb)
      obtain ⟨sr9, mv9⟩ := sr.work2 HEI.out.mv hk9 HEI.out.o1 f9 e9
      have hER := HER.out
      rw [List.take_of_length_le (by rw [← HM.out]; exact Nat.le_refl _)] at hER
      have hO : OutAt w W9 { D with works := on, ended := n, eff := E, kt := kt, who := rel who 6 (fun b => ob1 = some b), wv := .slice la1 m1 lc1, wb := ob1 } (.slice la2 m2 lc2) outs := by
        refine ⟨ob2, HEI.out.r2.keep fun g e => f9.block g (HEI.out.r2.lt g e) (fun e2 => ?_), fun g e => ⟨(HEI.out.o2 g e).2, ?_⟩⟩
        · have := (HEI.out.o2 g e).1; rw [e2] at this; rw [show who sb = 0 from this] at hsb; cases hsb
        · show rel who 6 (fun b => ob1 = some b) g = 0
          have h0 : who g = 0 := (HEI.out.o2 g e).1
          unfold rel
          rw [if_neg (fun e2 => HEI.out.sep g e2 e), h0]
          rfl
      have HF : Hid (EndPost w sb hz now sick s D (.returned (.slice la2 m2 lc2)) W9) := ⟨on, outs, n, E, kt, _, _, _, _, rfl, sr9, mv9, hO, hER, by have := HKT.out; rw [← HM1.out]; rw [← HM.out]; exact this⟩
      clear sr e9 f9 hsb hk9 sr9 mv9 hER hO
      go_wp2_with fail
      go_ret
      exact HF.out

end Go.Proofs.YtchjlkfkfcmhlaaDoor
