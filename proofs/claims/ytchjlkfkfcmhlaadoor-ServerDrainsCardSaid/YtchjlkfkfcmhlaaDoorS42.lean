/- ServerDrains: the walk (printed by wip/tools/gen42s.py). -/
import Derived.Test.YtchjlkfkfcmhlaaDoorS41
import Derived.Test.YtchjlkfkfcmhlaaDoorS37
namespace Go.Proofs.YtchjlkfkfcmhlaaDoor
open Go.RowKit
attribute [local go_sem ↓] Go.wp_at_zero Go.wp_at_succ

theorem SS.upAt_down (t : SS) (now : Int) : (t.upAt now).down = false ∧ (t.upAt now).works = t.works := by
  unfold SS.upAt
  split
  · exact ⟨rfl, rfl⟩
  · rename_i h; exact ⟨by simpa using h, rfl⟩
def DrL (W2 : World) (sb : Nat) (s : Sv) (now P : Int) (D : SD) (i : Nat) (wr : World) : Prop :=
  ∃ D', SR wr sb 10 s (now + i) D' ∧ Mv W2 D wr D' ∧ D'.Ok (now + i) 40 ∧ DrI s P i D'.t

set_option maxRecDepth 8000 in
set_option maxHeartbeats 16000000 in
theorem drains_walk {w : World} (hM : MaxLenAt w) (n : Int) (hn : -9223372036854775808 ≤ n ∧ n ≤ 9223372036854775807) {A : Option Addr} {k : Nat} {l : List Int} (hA : ArgInts w A k l) (cap : Nat) :
    Calls Tryd.prog 7 #[.int .i64 n, .slice A k cap] w fun e w' => e = .returned (.bool true) ∧ Below w.heap.size w w' := by
  obtain ⟨s, hs⟩ : ∃ s, s = svOf n := ⟨_, rfl⟩
  have HSK : Hid s.Ok := hs ▸ svOf_ok n
  have hSV := fun w => service_any n hn w
  rw [← hs] at hSV
  have HMD := Lib.hid (fun w => made_any s 10 w)
  unfold svV svCells at hSV HMD
  have HSV := Lib.hid hSV
  have HM := Lib.hid hM
  have HA := Lib.hid hA
  clear hM hA hn hs hSV
  go_enter Tryd.func7, Tryd.ntmps7
  go_wp2_with fail
  refine (HSV.out _).mono ?_
  rintro e W1 ⟨rfl, b1⟩
  obtain ⟨Wa, hWa⟩ : ∃ Wa, W1.alloc (.cells #[.int .i64 s.id, .slice none 0 0, .int .i64 s.work, .int .i64 s.slots, .int .i64 s.queue, .int .i64 s.bal, .int .i64 s.warm] 25) = Wa := ⟨_, rfl⟩
  have ba : Below W1.heap.size W1 Wa := by rw [← hWa]; exact (Below.refl _ _).alloc (Nat.le_refl _) _
  have za : Wa.heap[W1.heap.size]? = some (.cells #[.int .i64 s.id, .slice none 0 0, .int .i64 s.work, .int .i64 s.slots, .int .i64 s.queue, .int .i64 s.bal, .int .i64 s.warm] 25 (0, 0)) := by rw [← hWa]; exact heap_alloc_new W1 _
  have HBA := Lib.hid (btrans b1 ba)
  have HZA := Lib.hid za
  have v0 := block_cell za 0 _ rfl
  have v1 := block_cell za 1 _ rfl
  have v2 := block_cell za 2 _ rfl
  have v3 := block_cell za 3 _ rfl
  have v4 := block_cell za 4 _ rfl
  have v5 := block_cell za 5 _ rfl
  have v6 := block_cell za 6 _ rfl
  clear b1 ba za
  go_wp2_with fail
  clear v0 v1 v2 v3 v4 v5 v6 hWa
  refine (HMD.out _).mono ?_
  rintro e W2 ⟨sb, rfl, hNS⟩
  obtain ⟨D, sr2, ok2, ht2, hn2, b2⟩ := hNS
  have hb2 := btrans HBA.out b2
  have hn2' : ∀ b, D.who b ≠ 0 → w.heap.size ≤ b := fun b e => Nat.le_trans HBA.out.size (hn2 b e)
  have HRN := Lib.hid (run_any sr2 (Glob.new HM.out hb2 hn2') ok2 HSK.out (by decide) (HA.out.keep hb2) cap true)
  have hz1 := (Array.getElem?_eq_some_iff.1 HZA.out).1
  have HW0 : Hid (D.who W1.heap.size = 0) := Classical.byContradiction fun hne => by have := hn2 _ hne; omega
  have HZ2 : Hid (W2.heap[W1.heap.size]? = some (.cells #[.int .i64 s.id, .slice none 0 0, .int .i64 s.work, .int .i64 s.slots, .int .i64 s.queue, .int .i64 s.bal, .int .i64 s.warm] 25 (0, 0))) := (b2.block _ hz1).trans HZA.out
  have HL2 : Hid (W1.heap.size < W2.heap.size) := Nat.lt_of_lt_of_le hz1 b2.size
  have HB2 := Lib.hid hb2
  have HN2 := Lib.hid hn2'
  have HT2 := Lib.hid ht2
  have HG2 := Lib.hid (Glob.new HM.out hb2 hn2')
  clear sr2 ok2 ht2 hn2 hn2' b2 hb2 hz1
  go_wp2_with fail
  refine HRN.out.mono ?_
  rintro e W3 ⟨D3, all, ob, now, va, rfl, hR, hn0, hn1, hok, hlen, hRI⟩
  obtain ⟨la, lc, rfl⟩ := hRI.r.form
  rw [HT2.out] at hR
  have hlb := hR.lb HSK.out
  have HM3 := Lib.hid hRI.mv
  have HLB := Lib.hid hlb
  have HOK3 := Lib.hid hok
  have HUP := Lib.hid (up_any (now' := now) hRI.sr)
  clear hok hRI hlen hR hlb
  go_wp2_with fail
  refine HUP.out.mono ?_
  rintro e W4 ⟨rfl, sr4, mv4⟩
  have hok4 := HOK3.out.upAt hn0
  have ht4 := SD.upAt_t D3 now
  obtain ⟨D4, hD4⟩ : ∃ D4, D4 = D3.upAt now := ⟨_, rfl⟩
  rw [← hD4] at sr4 mv4 hok4 ht4
  obtain ⟨hd4, hw4⟩ := SS.upAt_down D3.t now
  rw [← ht4] at hd4 hw4
  have hDr := DrI.start HSK.out hd4 (show D4.t.Lb (2 * s.work) by unfold SS.Lb; rw [hw4]; exact HLB.out)
  have hlw : D4.t.waits.length = D4.l.length := by rw [hok4.len]; simp [SD.t]
  rw [hlw, show D4.t.works.length = D4.works.length from rfl] at hDr
  have hsum := hok4.sum
  have hmm := hok4.len
  have hwt := waiting_any sr4
  have hwk := working_any sr4
  obtain ⟨p, hp⟩ : ∃ p, p = D4.l.length := ⟨_, rfl⟩
  obtain ⟨q, hq⟩ : ∃ q, q = D4.works.length := ⟨_, rfl⟩
  rw [← hp] at hDr hwt hmm
  rw [← hq] at hDr hwk hsum
  have hpq : p + q ≤ 40 := by omega
  have hst : DrL W2 sb s now (2 * s.work * ((p + q : Nat) : Int)) D 0 W4 := ⟨D4, by simpa using sr4, HM3.out.trans mv4, by simpa using hok4, hDr⟩
  have HST := Lib.hid hst
  have HWT := Lib.hid hwt
  have HWK := Lib.hid hwk
  obtain ⟨X, hX⟩ : ∃ X : Int, X = (p : Int) + (q : Int) := ⟨_, rfl⟩
  have gx0 : IntKind.i64.wrap ((p : Int) + (q : Int)) = (p : Int) + (q : Int) := IntWalk.i64_in _ (by omega)
  have hX0 : 0 ≤ X ∧ X ≤ 40 := by omega
  have HX := Lib.hid hX
  clear sr4 mv4 hok4 ht4 hd4 hw4 hDr hlw hsum hmm hwt hwk hD4 hp hq hst hX
  go_wp2_with fail
  refine HWT.out.mono ?_
  rintro e wq ⟨rfl, hwq⟩
  rw [hwq]
  clear hwq wq
  go_wp2_with fail
  refine HWK.out.mono ?_
  rintro e wq ⟨rfl, hwq⟩
  rw [hwq]
  clear hwq wq
  go_wp2_with fail
  rw [← HX.out]
  clear gx0
  have hwb := HSK.out.work
  have hm1 : (X + 1) * 2 * s.work ≤ 82 * 4 := Int.mul_le_mul (by omega) hwb.2 (by omega) (by omega)
  have hm0 : 0 ≤ (X + 1) * 2 * s.work := Int.mul_nonneg (by omega) (by omega)
  have gx1 : IntKind.i64.wrap (X + 1) = X + 1 := IntWalk.i64_in _ (by omega)
  have gx2 : IntKind.i64.wrap ((X + 1) * 2) = (X + 1) * 2 := IntWalk.i64_in _ (by omega)
  have gx3 : IntKind.i64.wrap ((X + 1) * 2 * s.work) = (X + 1) * 2 * s.work := IntWalk.i64_in _ (by omega)
  obtain ⟨N, hN⟩ : ∃ N : Nat, (X + 1) * 2 * s.work = (N : Int) := ⟨((X + 1) * 2 * s.work).toNat, by omega⟩
  have hNb : N ≤ 328 := by omega
  have HNP : Hid ((N : Int) = 2 * s.work * ((p + q : Nat) : Int) + 2 * s.work) := by
    show (N : Int) = _
    rw [← hN, HX.out, Int.mul_assoc, Int.add_mul, Int.one_mul, Int.natCast_add, Int.mul_comm ((p : Int) + (q : Int)) (2 * s.work)]
  have HNN := Lib.hid hN
  clear hm1 hm0 hwb hpq
  go_loopw [10] (fun vi wr => ∃ i : Nat, vi = .int .i64 i ∧ i ≤ N + 1 ∧ Hid (DrL W2 sb s now (2 * s.work * ((p + q : Nat) : Int)) D i wr)) (fun vi _ => (400 - intOf vi).toNat)
  case atStart => exact ⟨0, rfl, Nat.zero_le _, HST.out⟩
  case round =>
    obtain ⟨i, rfl, hi, hl⟩ := hrel
    obtain ⟨D5, sr5, mv5, ok5, hdr⟩ := hl.out
    have hz := (mv5.keep0 HW0.out HL2.out).trans HZ2.out
    have v2 := block_cell hz 2 _ rfl
    have gn : IntKind.i64.wrap (now + (i : Int)) = now + (i : Int) := IntWalk.i64_in _ (by omega)
    have HSR := Lib.hid sr5
    have HMV := Lib.hid mv5
    have HOK := Lib.hid ok5
    have HDR := Lib.hid hdr
    clear hl sr5 mv5 ok5 hdr hz
    by_cases hin : i ≤ N
    · have t0 : decide ((i : Int) ≤ (N : Int)) = true := decide_eq_true (by omega)
      have p0 : ¬ (N : Int) < (i : Int) := by omega
      have HST2 := Lib.hid (step_any HSR.out (HG2.out.mv HMV.out) HOK.out (by decide) HSK.out (by omega) (by decide) false 0 1 (by decide))
      go_wp2_with fail
      refine HST2.out.mono ?_
      rintro e W6 ⟨D6, outs6, v6, rfl, sr6, mv6, -, ok6, hs6, -⟩
      have hnx : now + ((i + 1 : Nat) : Int) = now + (i : Int) + 1 := by omega
      have HF : Hid (DrL W2 sb s now (2 * s.work * ((p + q : Nat) : Int)) D (i + 1) W6) :=
        ⟨D6, sr6.later (by omega), HMV.out.trans mv6, ok6.mono (by omega) (Nat.le_refl _), HDR.out.step HSK.out HOK.out.up.2 hs6⟩
      clear sr6 mv6 ok6 hs6 hnx
      go_wp2_with fail
      go_roundw
      case rel => exact ⟨i + 1, by go_num, by omega, HF⟩
      case measure => simp [intOf]; omega
    · have t0 : decide ((i : Int) ≤ (N : Int)) = false := decide_eq_false (by omega)
      have p0 : (N : Int) < (i : Int) := by omega
      have hdone := HDR.out.done HSK.out (by have := HNP.out; have := HSK.out.work; omega) (Int.mul_nonneg (by have := HSK.out.work; omega) (by omega))
      have hl6 : D5.l.length = 0 := by rw [HOK.out.len]; have := congrArg List.length hdone.2; simpa [SD.t] using this
      have hk6 : D5.works.length = 0 := by have := congrArg List.length hdone.1; simpa [SD.t] using this
      have hwt := waiting_any HSR.out
      have hwk := working_any HSR.out
      have hdn := down_any HSR.out
      rw [hl6] at hwt
      rw [hk6] at hwk
      rw [show D5.down = false from HDR.out.up] at hdn
      have HWT2 := Lib.hid hwt
      have HWK2 := Lib.hid hwk
      have HDN2 := Lib.hid hdn
      have HBF := Lib.hid (run_below HB2.out HN2.out HMV.out)
      have HLV := Lib.hid (lives_any (HM.out.below HM.out.lt HBF.out))
      clear hdone hl6 hk6 hwt hwk hdn
      go_wp2_with fail
      refine HWT2.out.mono ?_
      rintro e wq ⟨rfl, hwq⟩
      rw [hwq]
      clear hwq wq
      go_wp2_with fail
      refine HWK2.out.mono ?_
      rintro e wq ⟨rfl, hwq⟩
      rw [hwq]
      clear hwq wq
      go_wp2_with fail
      refine HDN2.out.mono ?_
      rintro e wq ⟨rfl, hwq⟩
      rw [hwq]
      clear hwq wq
      go_wp2_with fail
      refine HLV.out.mono ?_
      rintro e W13 ⟨rfl, b13⟩
      go_wp2_with fail
      go_ret
      exact ⟨rfl, btrans HBF.out b13⟩

end Go.Proofs.YtchjlkfkfcmhlaaDoor
