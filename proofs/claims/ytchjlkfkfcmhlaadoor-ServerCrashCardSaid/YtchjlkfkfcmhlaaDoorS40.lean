/- ServerCrash: the walk (printed by wip/tools/gen40s.py). -/
import Derived.Test.YtchjlkfkfcmhlaaDoorS38
import Derived.Test.YtchjlkfkfcmhlaaDoorS37
namespace Go.Proofs.YtchjlkfkfcmhlaaDoor
open Go.RowKit
attribute [local go_sem ↓] Go.wp_at_zero Go.wp_at_succ

theorem come_down {s : Sv} {c : Cx} {t t' : SS} {outs : List Ou} {fresh : Bool} (h : ComeR s c t t' outs fresh) (hd : t.down = true) : t' = t ∧ outs = [] ∧ fresh = false := by
  rcases h with ⟨_, h1, h2, h3⟩ | ⟨h1, _⟩
  · exact ⟨h1, h2, h3⟩
  · rw [hd] at h1; cases h1
theorem step_down {hz now sick lazy : Int} {s : Sv} {p : Bool} {t t' : SS} {outs : List Ou} (h : StepR hz s now p sick lazy t t' outs) (hd : t.down = true) : t' = t ∧ outs = [] := by
  rcases h with ⟨_, h1, h2⟩ | ⟨h1, _⟩
  · exact ⟨h1, h2⟩
  · rw [hd] at h1; cases h1
theorem come_up {s : Sv} {c : Cx} {t t' : SS} {outs : List Ou} {fresh : Bool} (h : ComeR s c t t' outs fresh) (hd : t.down = false) (hc : t.came = []) (hw : t.waits = []) (hq : 0 < s.queue) : fresh = true ∧ t'.waits.length = 1 ∧ t'.down = t.down ∧ t'.again = t.again ∧ t'.up = t.up := by
  rcases h with ⟨h1 | h1, _⟩ | ⟨_, _, h3, q, rfl, ⟨_, h5, _⟩ | ⟨h4, _⟩⟩
  · rw [hd] at h1; cases h1
  · rw [hc] at h1; cases h1
  · have := h5.length_eq
    rw [hw] at this
    exact ⟨h3, this, rfl, rfl, rfl⟩
  · rw [hw] at h4
    simp at h4
    omega

set_option maxRecDepth 8000 in
set_option maxHeartbeats 16000000 in
theorem crash_walk {w : World} (hM : MaxLenAt w) (n later : Int) (hn : -9223372036854775808 ≤ n ∧ n ≤ 9223372036854775807) (hl : -9223372036854775808 ≤ later ∧ later ≤ 9223372036854775807) {A : Option Addr} {k : Nat} {l : List Int} (hA : ArgInts w A k l) (cap : Nat) :
    Calls Tryd.prog 8 #[.int .i64 n, .slice A k cap, .int .i64 later] w fun e w' => e = .returned (.bool true) ∧ Below w.heap.size w w' := by
  have HAR := Lib.hid (fun w => around_any later 20 w hl.1 hl.2 (by decide) (by decide))
  obtain ⟨y0, y1⟩ := around_bd later (m := 20) (by decide)
  obtain ⟨y, hy⟩ : ∃ y, y = around later 20 := ⟨_, rfl⟩
  rw [← hy] at y0 y1 HAR
  obtain ⟨s, hs⟩ : ∃ s, s = svOf n := ⟨_, rfl⟩
  have HSK : Hid s.Ok := hs ▸ svOf_ok n
  have hSV := fun w => service_any n hn w
  rw [← hs] at hSV
  have HMD := Lib.hid (fun w => made_any s 10 w)
  unfold svV svCells at hSV HMD
  have HSV := Lib.hid hSV
  have HM := Lib.hid hM
  have HA := Lib.hid hA
  have HY : Hid (0 ≤ y ∧ y ≤ 20) := ⟨y0, by omega⟩
  clear hM hA hn hl hy hs hSV y0 y1
  go_enter Tryd.func8, Tryd.ntmps8
  go_wp2_with fail
  refine (HSV.out _).mono ?_
  rintro e W1 ⟨rfl, b1⟩
  obtain ⟨Wa, hWa⟩ : ∃ Wa, W1.alloc (.cells #[.int .i64 s.id, .slice none 0 0, .int .i64 s.work, .int .i64 s.slots, .int .i64 s.queue, .int .i64 s.bal, .int .i64 s.warm] 25) = Wa := ⟨_, rfl⟩
  have ba : Below W1.heap.size W1 Wa := by rw [← hWa]; exact (Below.refl _ _).alloc (Nat.le_refl _) _
  have za : Wa.heap[W1.heap.size]? = some (.cells #[.int .i64 s.id, .slice none 0 0, .int .i64 s.work, .int .i64 s.slots, .int .i64 s.queue, .int .i64 s.bal, .int .i64 s.warm] 25 (0, 0)) := by rw [← hWa]; exact heap_alloc_new W1 _
  have HBA := Lib.hid (btrans b1 ba)
  have HZA := Lib.hid za
  have v0 := block_cell za 0 _ rfl
  have v1 := block_cell za 1 _ rfl
  have v2 := block_cell za 2 _ rfl
  have v3 := block_cell za 3 _ rfl
  have v4 := block_cell za 4 _ rfl
  have v5 := block_cell za 5 _ rfl
  have v6 := block_cell za 6 _ rfl
  clear b1 ba za
  go_wp2_with fail
  clear v0 v1 v2 v3 v4 v5 v6 hWa
  refine (HMD.out _).mono ?_
  rintro e W2 ⟨sb, rfl, hNS⟩
  obtain ⟨D, sr2, ok2, ht2, hn2, b2⟩ := hNS
  have hb2 := btrans HBA.out b2
  have hn2' : ∀ b, D.who b ≠ 0 → w.heap.size ≤ b := fun b e => Nat.le_trans HBA.out.size (hn2 b e)
  have HRN := Lib.hid (run_any sr2 (Glob.new HM.out hb2 hn2') ok2 HSK.out (by decide) (HA.out.keep hb2) cap true)
  have hz1 := (Array.getElem?_eq_some_iff.1 HZA.out).1
  have HW0 : Hid (D.who W1.heap.size = 0) := Classical.byContradiction fun hne => by have := hn2 _ hne; omega
  have HZ2 : Hid (W2.heap[W1.heap.size]? = some (.cells #[.int .i64 s.id, .slice none 0 0, .int .i64 s.work, .int .i64 s.slots, .int .i64 s.queue, .int .i64 s.bal, .int .i64 s.warm] 25 (0, 0))) := (b2.block _ hz1).trans HZA.out
  have HL2 : Hid (W1.heap.size < W2.heap.size) := Nat.lt_of_lt_of_le hz1 b2.size
  have HB2 := Lib.hid hb2
  have HN2 := Lib.hid hn2'
  have HG2 := Lib.hid (Glob.new HM.out hb2 hn2')
  clear sr2 ok2 ht2 hn2 hn2' b2 hb2 hz1
  go_wp2_with fail
  refine HRN.out.mono ?_
  rintro e W3 ⟨D3, all, ob, now, va, rfl, -, hn0, hn1, hok, hlen, hRI⟩
  obtain ⟨la, lc, rfl⟩ := hRI.r.form
  have HM3 := Lib.hid hRI.mv
  have HSR3 := Lib.hid hRI.sr
  have HOK3 := Lib.hid hok
  have HCR := Lib.hid (crash_any (now' := now) hRI.sr)
  clear hok hRI hlen
  go_wp2_with fail
  refine HCR.out.mono ?_
  rintro e W4 ⟨rfl, who4, qb4, mb4, cb4, sr4, mv4⟩
  have hok4 := HOK3.out.crashed who4 qb4 mb4 cb4
  obtain ⟨D4, hD4⟩ : ∃ D4, D4 = D3.crashed who4 qb4 mb4 cb4 := ⟨_, rfl⟩
  have ht4 : D4.down = true ∧ D4.t.came = [] ∧ D4.t.waits = [] ∧ D4.t.works = [] := by rw [hD4]; exact ⟨rfl, rfl, rfl, rfl⟩
  rw [← hD4] at sr4 mv4 hok4
  have HSR4 := Lib.hid sr4
  have HM4 := Lib.hid (HM3.out.trans mv4)
  have HOK4 := Lib.hid hok4
  have HT4 := Lib.hid ht4
  have g1 : IntKind.i64.wrap (now + 100) = now + 100 := IntWalk.i64_in _ (by omega)
  clear hD4 sr4 mv4 hok4 ht4
  go_wp2_with fail
  clear g1
  obtain ⟨W5, hW5⟩ : ∃ W5, W4.alloc (.cells #[.int .i64 1, .string ⟨#[49]⟩, .int .i64 1, .bool false, .bool false, .int .i64 (now + 100), .int .i64 0, .int .i64 1, .int .i64 0] 31) = W5 := ⟨_, rfl⟩
  rw [hW5]
  have b5 : Below W4.heap.size W4 W5 := by rw [← hW5]; exact (Below.refl _ _).alloc (Nat.le_refl _) _
  have z5 : W5.heap[W4.heap.size]? = some (.cells #[.int .i64 1, .string ⟨#[49]⟩, .int .i64 1, .bool false, .bool false, .int .i64 (now + 100), .int .i64 0, .int .i64 1, .int .i64 0] 31 (0, 0)) := by rw [← hW5]; exact heap_alloc_new W4 _
  have hl5 := (Array.getElem?_eq_some_iff.1 z5).1
  have hw5 : D4.who W4.heap.size = 0 := Classical.byContradiction fun hne => by have := HSR4.out.lt _ hne; omega
  have sr5 := HSR4.out.below b5
  have hCM := come_any (k := 40) sr5 HOK4.out (by decide) ⟨1, ⟨#[49]⟩, 1, false, false, now + 100, 0, 1, 0⟩ (by show (1 : Nat) ≤ 1000; decide) (by show (1 : Int) ≤ 9; decide)
  unfold cxV cxCells at hCM
  dsimp only at hCM
  have HCM := Lib.hid hCM
  have HZ5 := Lib.hid z5
  have HL5 := Lib.hid hl5
  have HW5 := Lib.hid hw5
  have HM5 := Lib.hid (HM4.out.below b5)
  clear hW5 b5 z5 hl5 hw5 sr5 hCM
  refine HCM.out.mono ?_
  rintro e W6 ⟨D6, outs6, v6, fresh6, rfl, sr6, ok6, mv6, ho6, hc6⟩
  obtain ⟨ht6, rfl, rfl⟩ := come_down hc6 HT4.out.1
  obtain ⟨ob6, hr6, _⟩ := ho6
  obtain ⟨la6, lc6, rfl⟩ := hr6.form
  have hd6 : D6.down = true := (congrArg SS.down ht6).trans HT4.out.1
  have hx6 : D6.t.came = [] ∧ D6.t.waits = [] ∧ D6.t.works = [] := by rw [ht6]; exact HT4.out.2
  have hl6 : D6.l.length = 0 := by rw [ok6.len]; have := congrArg List.length hx6.2.1; simpa [SD.t] using this
  have hk6 : D6.works.length = 0 := by have := congrArg List.length hx6.2.2; simpa [SD.t] using this
  have HZ6 : Hid (W6.heap[W4.heap.size]? = some (.cells #[.int .i64 1, .string ⟨#[49]⟩, .int .i64 1, .bool false, .bool false, .int .i64 (now + 100), .int .i64 0, .int .i64 1, .int .i64 0] 31 (0, 0))) := (mv6.keep0 HW5.out HL5.out).trans HZ5.out
  have HL6 : Hid (W4.heap.size < W6.heap.size) := Nat.lt_of_lt_of_le HL5.out mv6.1.size
  have HW6 : Hid (D6.who W4.heap.size = 0) := mv6.who0 HW5.out HL5.out
  have HM6 := Lib.hid (HM5.out.trans mv6)
  have HSR6 := Lib.hid sr6
  have HOK6 := Lib.hid ok6
  have HX6 := Lib.hid hx6
  have HD6 := Lib.hid hd6
  have hsl := slots_any sr6 ok6.up (by omega) HSK.out.warm.1
  rw [hd6, show slotsOf s true D6.again D6.up now = 0 from rfl] at hsl
  have HSL := Lib.hid hsl
  have HWT : Hid (∀ W, SR W sb 10 s now D6 → Calls Tryd.prog 15 #[.pointer (some ⟨sb, 0, none⟩)] W fun e w' => e = .returned (.int .i64 0) ∧ w' = W) := fun W hW => by have h := waiting_any hW; rw [hl6] at h; exact h
  have HWK : Hid (∀ W, SR W sb 10 s now D6 → Calls Tryd.prog 16 #[.pointer (some ⟨sb, 0, none⟩)] W fun e w' => e = .returned (.int .i64 0) ∧ w' = W) := fun W hW => by have h := working_any hW; rw [hk6] at h; exact h
  clear ok6 mv6 hc6 hr6 hx6 hl6 hk6 sr6 hsl ht6 hd6
  go_wp2_with fail
  refine HSL.out.mono ?_
  rintro e W7 ⟨rfl, b7⟩
  have HSR7 := Lib.hid (HSR6.out.below b7)
  have HM7 := Lib.hid (HM6.out.below b7)
  have HB7 := Lib.hid b7
  clear b7
  go_wp2_with fail
  refine (HWT.out _ HSR7.out).mono ?_
  rintro e wq ⟨rfl, hwq⟩
  rw [hwq]
  clear hwq wq
  go_wp2_with fail
  refine (HWK.out _ HSR7.out).mono ?_
  rintro e wq ⟨rfl, hwq⟩
  rw [hwq]
  clear hwq wq
  have HST := Lib.hid (step_any HSR7.out (HG2.out.mv HM7.out) HOK6.out (by decide) HSK.out (by omega) (by decide) false 0 1 (by decide))
  go_wp2_with fail
  refine HST.out.mono ?_
  rintro e W8 ⟨D8, outs8, v8, rfl, sr8, mv8, ho8, ok8, hs8, -⟩
  obtain ⟨ht8, rfl⟩ := step_down hs8 HD6.out
  obtain ⟨ob8, hr8, _⟩ := ho8
  obtain ⟨la8, lc8, rfl⟩ := hr8.form
  have hd8 : D8.down = true := (congrArg SS.down ht8).trans HD6.out
  have HX8 : Hid (D8.t.came = [] ∧ D8.t.waits = [] ∧ D8.t.works = []) := by rw [show D8.t = D6.t from ht8]; exact HX6.out
  have hdn := down_any sr8
  rw [hd8] at hdn
  have HDN := Lib.hid hdn
  have hm68 := Mv.trans ((Mv.refl W6 D6).below HB7.out) mv8
  have HZ8 : Hid (W8.heap[W4.heap.size]? = some (.cells #[.int .i64 1, .string ⟨#[49]⟩, .int .i64 1, .bool false, .bool false, .int .i64 (now + 100), .int .i64 0, .int .i64 1, .int .i64 0] 31 (0, 0))) := (hm68.keep0 HW6.out HL6.out).trans HZ6.out
  have HL8 : Hid (W4.heap.size < W8.heap.size) := Nat.lt_of_lt_of_le HL6.out hm68.1.size
  have HW8 : Hid (D8.who W4.heap.size = 0) := hm68.who0 HW6.out HL6.out
  have HM8 := Lib.hid (HM7.out.trans mv8)
  have HSR8 := Lib.hid sr8
  have HOK8 := Lib.hid ok8
  have HD8 := Lib.hid hd8
  have HUP := Lib.hid (up_any (now' := now + 1) sr8)
  clear sr8 mv8 ok8 hs8 hr8 hdn hm68 ht8 hd8
  go_wp2_with fail
  refine HDN.out.mono ?_
  rintro e wq ⟨rfl, hwq⟩
  rw [hwq]
  clear hwq wq
  have g1 : IntKind.i64.wrap (now + 1) = now + 1 := IntWalk.i64_in _ (by omega)
  go_wp2_with fail
  refine HUP.out.mono ?_
  rintro e W9 ⟨rfl, sr9, mv9⟩
  have hup : D8.upAt (now + 1) = { D8 with down := false, again := true, up := now + 1 } := by unfold SD.upAt; rw [if_pos HD8.out]
  have ok9 := (HOK8.out.mono (show now ≤ now + 1 by omega) (Nat.le_refl _)).upAt (show 0 ≤ now + 1 by omega)
  have sr9b := sr9.later (show now ≤ now + 1 by omega)
  rw [hup] at sr9b mv9 ok9
  obtain ⟨D9, hD9⟩ : ∃ D9, D9 = ({ D8 with down := false, again := true, up := now + 1 } : SD) := ⟨_, rfl⟩
  rw [← hD9] at sr9b mv9 ok9
  have HX9 : Hid (D9.down = false ∧ D9.again = true ∧ D9.up = now + 1 ∧ D9.t.came = [] ∧ D9.t.waits = []) := by rw [hD9]; exact ⟨rfl, rfl, rfl, HX8.out.1, HX8.out.2.1⟩
  have hm9 := HM8.out.trans mv9
  have HM9 := Lib.hid hm9
  have hm29 := (HM3.out).trans (Mv.refl W3 D3)
  have HZ9 : Hid (W9.heap[W4.heap.size]? = some (.cells #[.int .i64 1, .string ⟨#[49]⟩, .int .i64 1, .bool false, .bool false, .int .i64 (now + 100), .int .i64 0, .int .i64 1, .int .i64 0] 31 (0, 0))) := (mv9.keep0 HW8.out HL8.out).trans HZ8.out
  have hv9 := (hm9.keep0 HW0.out HL2.out).trans HZ2.out
  have HSR9 := Lib.hid sr9b
  have HOK9 := Lib.hid ok9
  have HHV := Lib.hid hv9
  have v3 := block_cell hv9 3 _ rfl
  have v6 := block_cell hv9 6 _ rfl
  have HGL9 := Lib.hid (HG2.out.mv hm9)
  clear hup ok9 sr9 sr9b hD9 mv9 hm9 hm29 hv9 g1
  go_wp2_with fail
  refine (HAR.out _).mono ?_
  rintro e wq ⟨rfl, hwq⟩
  rw [← hwq]
  clear hwq wq
  obtain ⟨want, hwant⟩ : ∃ want, want = slotsOf s false true (now + 1) (now + 1 + y) := ⟨_, rfl⟩
  have HWANT := Lib.hid hwant
  clear hwant
  go_upto_if 87 with (fail)
  go_cut [15] from 87 to 96 (fun v wx => v = .int .i64 want ∧ Below W9.heap.size W9 wx)
  case first =>
    have hww := HSK.out.warm
    have hss := HSK.out.slots
    have hy := HY.out
    by_cases hw : 0 < s.warm
    · have t1 : decide (0 < s.warm) = true := decide_eq_true hw
      have e1 : y.tdiv s.warm = y / s.warm := Int.tdiv_eq_ediv_of_nonneg hy.1
      have b1 : 0 ≤ y / s.warm := Int.ediv_nonneg hy.1 (by omega)
      have b2 : y / s.warm ≤ y := Int.ediv_le_self _ hy.1
      have w2 : IntKind.i64.wrap (y / s.warm) = y / s.warm := IntWalk.i64_in _ (by omega)
      have w3 : IntKind.i64.wrap (1 + y / s.warm) = 1 + y / s.warm := IntWalk.i64_in _ (by omega)
      have tk : ¬ s.warm = 0 := by omega
      have HQ : Hid (want = min s.slots (1 + y / s.warm)) := by
        show want = _
        rw [HWANT.out]
        unfold slotsOf
        rw [if_neg (by decide), if_neg (by simp; omega), show now + 1 + y - (now + 1) = y by omega, Int.min_comm]
      clear b1 b2
      have p1 : ¬ s.warm ≤ 0 := by omega
      go_wp2_with fail
      clear hw p1
      refine wp_region_held_drew (S := fun W => W.cell? ⟨W1.heap.size, 3, none⟩ = some (.int .i64 s.slots) ∧ W.cell? ⟨W1.heap.size, 6, none⟩ = some (.int .i64 s.warm)) (by kernel_rfl) ⟨v3, v6⟩ (fun hHeld => ?_)
      refine wpAnyH_take (i := 0) (v := ?_) rfl (by kernel_rfl) (by kernel_rfl) (by kernel_rfl) (fun _ _ _ h => h) (Or.inl ⟨by kernel_rfl, ?_⟩) (by assumption) ?_
      rotate_left
      · (intro w hSw; (try dsimp only at hSw); go_simp; (try rw [if_neg (by (try simp only [ByteArray.size_append]); omega)]); (try with_reducible rfl))
      try simp only [Act.put]
      refine wpAnyH_take (i := 1) (v := ?_) rfl (by kernel_rfl) (by kernel_rfl) (by kernel_rfl) (fun _ _ _ h => h) (Or.inl ⟨by kernel_rfl, ?_⟩) (by assumption) ?_
      rotate_left
      · (intro w hSw; (try dsimp only at hSw); go_simp; (try rw [if_neg (by (try simp only [ByteArray.size_append]); omega)]); (try with_reducible rfl))
      try simp only [Act.put]
      refine wpAnyH_take (i := 2) (v := ?_) rfl (by kernel_rfl) (by kernel_rfl) (by kernel_rfl) (fun _ _ _ h => h) (Or.inl ⟨by kernel_rfl, ?_⟩) (by assumption) ?_
      rotate_left
      · (intro w hSw; (try dsimp only at hSw); go_simp; (try rw [if_neg (by (try simp only [ByteArray.size_append]); omega)]); (try with_reducible rfl))
      try simp only [Act.put]
      refine wpAnyH_take (i := 3) (v := ?_) rfl (by kernel_rfl) (by kernel_rfl) (by kernel_rfl) (fun _ _ _ h => h) (Or.inl ⟨by kernel_rfl, ?_⟩) (by assumption) ?_
      rotate_left
      · (intro w hSw; (try dsimp only at hSw); go_simp; (try rw [if_neg (by (try simp only [ByteArray.size_append]); omega)]); (try with_reducible rfl))
      try simp only [Act.put]
      refine wpAnyH_take (i := 4) (v := ?_) rfl (by kernel_rfl) (by kernel_rfl) (by kernel_rfl) (fun _ _ _ h => h) (Or.inl ⟨by kernel_rfl, ?_⟩) (by assumption) ?_
      rotate_left
      · (intro w hSw; (try dsimp only at hSw); go_simp; (try rw [if_neg (by (try simp only [ByteArray.size_append]); omega)]); (try with_reducible rfl))
      try simp only [Act.put]
      refine wpAnyH_take (i := 5) (v := ?_) rfl (by kernel_rfl) (by kernel_rfl) (by kernel_rfl) (fun _ _ _ h => h) (Or.inl ⟨by kernel_rfl, ?_⟩) (by assumption) ?_
      rotate_left
      · (intro w hSw; (try dsimp only at hSw); go_simp; (try rw [if_neg (by (try simp only [ByteArray.size_append]); omega)]); (try with_reducible rfl))
      try simp only [Act.put]
      refine wpAnyH_take (i := 6) (v := ?_) rfl (by kernel_rfl) (by kernel_rfl) (by kernel_rfl) (fun _ _ _ h => h) (Or.inl ⟨by kernel_rfl, ?_⟩) (by assumption) ?_
      rotate_left
      · (intro w hSw; (try dsimp only at hSw); go_simp; (try rw [if_neg (by (try simp only [ByteArray.size_append]); omega)]); (try with_reducible rfl))
      try simp only [Act.put]
      refine wpAnyH_take (i := 7) (v := ?_) rfl (by kernel_rfl) (by kernel_rfl) (by kernel_rfl) (fun _ _ _ h => h) (Or.inl ⟨by kernel_rfl, ?_⟩) (by assumption) ?_
      rotate_left
      · (intro w hSw; (try dsimp only at hSw); go_simp; (try rw [if_neg (by (try simp only [ByteArray.size_append]); omega)]); (try with_reducible rfl))
      try simp only [Act.put]
      refine wpAnyH_take (i := 8) (v := ?_) rfl (by kernel_rfl) (by kernel_rfl) (by kernel_rfl) (fun _ _ _ h => h) (Or.inl ⟨by kernel_rfl, ?_⟩) (by assumption) ?_
      rotate_left
      · (intro w hSw; (try dsimp only at hSw); go_simp; (try rw [if_neg (by (try simp only [ByteArray.size_append]); omega)]); (try with_reducible rfl))
      try simp only [Act.put]
      refine wpAnyH_done (by kernel_rfl) ?_ _
      try simp only [Act.put]
      clear hHeld
      go_simp
      go_wp2_with fail
      go_meet
      exact ⟨by rw [HQ.out], (Below.refl _ _).drew⟩
    · have t1 : decide (0 < s.warm) = false := decide_eq_false hw
      have HQ : Hid (want = s.slots) := by
        show want = _
        rw [HWANT.out]
        unfold slotsOf
        rw [if_neg (by decide), if_pos (by simp; omega)]
      have p1 : s.warm ≤ 0 := by omega
      go_wp2_with fail
      go_meet
      exact ⟨by rw [HQ.out], Below.refl _ _⟩
  case rest =>
    obtain ⟨rfl, hbc⟩ := hcut
    have hyy := HY.out
    have hHZ := ((hbc.block _ (Array.getElem?_eq_some_iff.1 HZ9.out).1).trans HZ9.out)
    have src := HSR9.out.below hbc
    have hCM := come_any (k := 41) src HOK9.out (by decide) ⟨1, ⟨#[49]⟩, 1, false, false, now + 100, 0, 1, 0⟩ (by show (1 : Nat) ≤ 1000; decide) (by show (1 : Int) ≤ 9; decide)
    unfold cxV cxCells at hCM
    dsimp only at hCM
    have HCM2 := Lib.hid hCM
    have HBC := Lib.hid hbc
    have g1 : IntKind.i64.wrap (now + 1) = now + 1 := IntWalk.i64_in _ (by omega)
    have u0 := block_cell hHZ 0 _ rfl
    have u1 := block_cell hHZ 1 _ rfl
    have u2 := block_cell hHZ 2 _ rfl
    have u3 := block_cell hHZ 3 _ rfl
    have u4 := block_cell hHZ 4 _ rfl
    have u5 := block_cell hHZ 5 _ rfl
    have u6 := block_cell hHZ 6 _ rfl
    have u7 := block_cell hHZ 7 _ rfl
    have u8 := block_cell hHZ 8 _ rfl
    clear hHZ src hCM hbc v3 v6
    go_wp2_with fail
    clear u0 u1 u2 u3 u4 u5 u6 u7 u8
    refine HCM2.out.mono ?_
    rintro e W10 ⟨D10, outs10, v10, fresh10, rfl, sr10, ok10, mv10, ho10, hc10⟩
    obtain ⟨rfl, hc2, hc3, hc4, hc5⟩ := come_up hc10 HX9.out.1 HX9.out.2.2.2.1 HX9.out.2.2.2.2 (by have := HSK.out.queue; omega)
    have hd10 : D10.down = false := hc3.trans HX9.out.1
    have ha10 : D10.again = true := hc4.trans HX9.out.2.1
    have hu10 : D10.up = now + 1 := hc5.trans HX9.out.2.2.1
    have hl10 : D10.l.length = 1 := by rw [ok10.len]; simpa [SD.t] using hc2
    have hUP := up_any (now' := now + 1) sr10
    rw [show D10.upAt (now + 1) = D10 by unfold SD.upAt; rw [if_neg (by rw [hd10]; decide)]] at hUP
    have HUP2 := Lib.hid hUP
    have HM10 := Lib.hid ((HM9.out.below HBC.out).trans mv10)
    have HSLT : Hid (∀ W, SR W sb 10 s (now + 1) D10 → Calls Tryd.prog 25 #[.pointer (some ⟨sb, 0, none⟩), .int .i64 (now + 1 + y)] W fun e w' => e = .returned (.int .i64 want) ∧ Below W.heap.size W w') := fun W hW => by
      have h := slots_any (hW.later (show now + 1 ≤ now + 1 + y by omega)) (by rw [hu10]; omega) (by omega) HSK.out.warm.1
      rw [hd10, ha10, hu10, ← HWANT.out] at h
      exact h
    have HWT2 : Hid (∀ W, SR W sb 10 s (now + 1) D10 → Calls Tryd.prog 15 #[.pointer (some ⟨sb, 0, none⟩)] W fun e w' => e = .returned (.int .i64 1) ∧ w' = W) := fun W hW => by have h := waiting_any hW; rw [hl10] at h; exact h
    obtain ⟨ob10, hr10, _⟩ := ho10
    obtain ⟨la10, lc10, rfl⟩ := hr10.form
    have g2 : IntKind.i64.wrap (now + 1 + y) = now + 1 + y := IntWalk.i64_in _ (by omega)
    clear sr10 ok10 mv10 hc10 hc2 hc3 hc4 hc5 hd10 ha10 hu10 hl10 hUP hr10
    go_wp2_with fail
    refine HUP2.out.mono ?_
    rintro e W11 ⟨rfl, sr11, mv11⟩
    have HSR11 := Lib.hid sr11
    have HM11 := Lib.hid (HM10.out.trans mv11)
    have HS11 := Lib.hid (HSLT.out _ sr11)
    clear sr11 mv11
    go_wp2_with fail
    refine HS11.out.mono ?_
    rintro e W12 ⟨rfl, b12⟩
    have HSR12 := Lib.hid (HSR11.out.below b12)
    have HM12 := Lib.hid (HM11.out.below b12)
    have HBF := Lib.hid (run_below HB2.out HN2.out HM12.out)
    have HLV := Lib.hid (lives_any (HM.out.below HM.out.lt HBF.out))
    clear b12
    go_wp2_with fail
    refine (HWT2.out _ HSR12.out).mono ?_
    rintro e wq ⟨rfl, hwq⟩
    rw [hwq]
    clear hwq wq
    go_wp2_with fail
    refine HLV.out.mono ?_
    rintro e W13 ⟨rfl, b13⟩
    go_wp2_with fail
    go_ret
    exact ⟨rfl, btrans HBF.out b13⟩

end Go.Proofs.YtchjlkfkfcmhlaaDoor
