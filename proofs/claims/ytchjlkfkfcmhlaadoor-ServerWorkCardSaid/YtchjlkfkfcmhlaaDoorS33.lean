/- A server run through acts (printed by wip/tools/gen33s.py). -/
import Derived.Test.YtchjlkfkfcmhlaaDoorS32
import Derived.Deep.CutBlock
namespace Go.Proofs.YtchjlkfkfcmhlaaDoor
open Go.RowKit
attribute [local go_sem ↓] Go.wp_at_zero Go.wp_at_succ

/-- The cells of a row's elements, as a walk wants them. -/
theorem Kd.At.cellsL {P : Program} {α : Type} {D : Kd P α} {w : World} {v : Value} {l : List α} {sb : Option Nat} (h : D.At w v l sb) (hp : 0 < l.length) :
    ∃ g off lc, v = .slice (some ⟨g, off, none⟩) l.length lc ∧ sb = some g ∧ ∀ W : World, W.heap[g]? = w.heap[g]? → ∀ (k : Nat) (a : α), l[k]? = some a → (∀ j u, (D.f a)[j]? = some u → W.cell? ⟨g, off + k * D.s + j, none⟩ = some u) := by
  obtain ⟨g, off, lc, h1, h2, h3⟩ := h.cells hp
  exact ⟨g, off, lc, h1, h2, fun W hW k a hk j u hj => by rw [Nat.add_assoc]; exact h3 W hW k a hk j u hj⟩

def RunL (w : World) (sb : Nat) (hz : Int) (s : Sv) (faults : Bool) (D : SD) (i : Nat) (va vn : Value) (wr : World) : Prop :=
  ∃ D' all ob now, RunR hz s faults D.t D'.t now all ∧ vn = .int .i64 now ∧ 0 ≤ now ∧ now ≤ 9 * i ∧ D'.Ok now i ∧ (∃ la lc, va = .slice la all.length lc) ∧ all.length ≤ 200 * i ∧ RI seenK w sb hz now s D D' all ob va wr

def RunI (w : World) (sb : Nat) (hz now : Int) (s : Sv) (D D' : SD) (all : List (Ou × Int)) (outs : List Ou) (gb : Option Nat) (vg : Value) (k : Nat) (va : Value) (wr : World) : Prop :=
  ∃ ob, RI seenK w sb hz now s D D' (all ++ atNow (outs.take k) now) ob va wr ∧ (∃ la lc, va = .slice la (all ++ atNow (outs.take k) now).length lc) ∧ ouK.At wr vg outs gb ∧ (∀ g, gb = some g → ob ≠ some g) ∧ ∀ g, gb = some g → D'.who g = 0 ∧ w.heap.size ≤ g

/-- What a switch leaves. -/
def SwP (wr : World) (sb : Nat) (hz now : Int) (s : Sv) (faults : Bool) (k : Nat) (D : SD) (v : Value) (wx : World) : Prop :=
  ∃ D2 outs ob la lc, v = .slice la outs.length lc ∧ SR wx sb hz s now D2 ∧ Mv wr D wx D2 ∧ ouK.At wx v outs ob ∧ (∀ g, ob = some g → wr.heap.size ≤ g ∧ D2.who g = 0) ∧ D2.Ok now k ∧ ActR hz s faults now D.t D2.t outs ∧ outs.length ≤ 200

def RunPost (w : World) (sb : Nat) (hz : Int) (s : Sv) (faults : Bool) (D : SD) (e : Ending) (w' : World) : Prop :=
  ∃ D' all ob now va, e = .returned (.tuple #[va, .int .i64 now]) ∧ RunR hz s faults D.t D'.t now all ∧ 0 ≤ now ∧ now ≤ 360 ∧ D'.Ok now 40 ∧ all.length ≤ 8000 ∧ RI seenK w sb hz now s D D' all ob va w'

set_option maxRecDepth 8000 in
set_option maxHeartbeats 16000000 in
theorem run_any {w : World} {sb : Nat} {hz : Int} {s : Sv} {D : SD} (h : SR w sb hz s 0 D) (hG : Glob w D) (hok : D.Ok 0 0) (hs : s.Ok) (hz1 : 1 ≤ hz) {A : Option Addr} {n : Nat} {l : List Int} (hA : ArgInts w A n l) (cap : Nat) (faults : Bool) :
    Calls Tryd.prog 18 #[.pointer (some ⟨sb, 0, none⟩), .slice A n cap, .bool faults] w (RunPost w sb hz s faults D) := by
  have HAC := Lib.hid (acts_any hA cap)
  have H := Lib.hid h
  clear hA h
  go_enter Tryd.func18, Tryd.ntmps18
  go_wp2_with fail
  refine HAC.out.mono ?_
  rintro e w1 ⟨A, v, rfl, ⟨ab, hA, hab, hb1⟩, hlen, hAok⟩
  obtain ⟨la0, lc0, rfl⟩ := hA.form
  obtain ⟨m, hm⟩ : ∃ m, m = A.length := ⟨_, rfl⟩
  rw [← hm] at hA ⊢
  have h1 := H.out.below hb1
  have hst : RunL w1 sb hz s faults D 0 (.slice none 0 0) (.int .i64 0) w1 := ⟨D, [], none, 0, .start, rfl, Int.le_refl _, Int.le_refl _, hok, ⟨_, _, rfl⟩, Nat.le_refl _, h1, Mv.refl _ _, seenK.nil _, fun g e => by cases e⟩
  have HST := Lib.hid hst
  have HM := Lib.hid hm
  have HA := Lib.hid hA
  have HAOK := Lib.hid hAok
  have HGL := Lib.hid (hG.mv ((Mv.refl w D).below hb1))
  have HM40 : Hid (m ≤ 40) := by show m ≤ 40; rw [hm, hlen]; exact Nat.min_le_right _ _
  have HACW : Hid (∀ g, ab = some g → D.who g = 0 ∧ g < w1.heap.size) := fun g e => ⟨Classical.byContradiction fun hne => by have h1 := hab g e; have h2 := H.out.lt g hne; omega, hA.lt g e⟩
  have HB1 := Lib.hid hb1
  clear hA hab hb1 hlen hAok hm h1 hst hG
  go_wp2_with fail
  have hm40 : m ≤ 40 := HM40.out
  go_loopw [8, 10, 11] (fun va vn vi wr => ∃ i : Nat, vi = .int .i64 i ∧ i ≤ m ∧ Hid (RunL w1 sb hz s faults D i va vn wr)) (fun _ _ vi _ => (m - intOf vi).toNat)
  case atStart => exact ⟨0, rfl, Nat.zero_le _, HST.out⟩
  case round =>
    obtain ⟨i, rfl, hi, hl⟩ := hrel
    obtain ⟨D', all, ob, now, hR, rfl, hn0, hn1, hok', ⟨la1, lc1, rfl⟩, hal, hRI⟩ := hl.out
    obtain ⟨m1, hm1⟩ : ∃ m1, m1 = all.length := ⟨_, rfl⟩
    rw [← hm1] at hRI hal ⊢
    have HR := Lib.hid hR
    have HM1 := Lib.hid hm1
    have HOK' := Lib.hid hok'
    have HRI := Lib.hid hRI
    clear hl hR hok' hRI hm1
    by_cases him : i < m
    · have t0 : decide ((i : Int) < (m : Int)) = true := decide_eq_true (by omega)
      obtain ⟨a, ha⟩ : ∃ a, A[i]? = some a := ⟨_, List.getElem?_eq_getElem (by have := HM.out; omega)⟩
      have haok := HAOK.out a (List.mem_of_getElem? ha)
      obtain ⟨g, off, lc', e1, e2, hcl⟩ := HA.out.cellsL (by have := HM.out; omega)
      obtain ⟨hg0, hgl⟩ := HACW.out g e2
      have hcl2 := hcl wr (HRI.out.mv.keep0 hg0 hgl) i a ha
      have q0 : wr.cell? ⟨g, off + i * 6, none⟩ = some (.int .i64 a.later) := hcl2 0 _ rfl
      have q1 : wr.cell? ⟨g, off + i * 6 + 1, none⟩ = some (.int .i64 a.do_) := hcl2 1 _ rfl
      have q2 : wr.cell? ⟨g, off + i * 6 + 2, none⟩ = some (.int .i64 a.n) := hcl2 2 _ rfl
      have q3 : wr.cell? ⟨g, off + i * 6 + 3, none⟩ = some (.bool a.paused) := hcl2 3 _ rfl
      have q4 : wr.cell? ⟨g, off + i * 6 + 4, none⟩ = some (.int .i64 a.sick) := hcl2 4 _ rfl
      have q5 : wr.cell? ⟨g, off + i * 6 + 5, none⟩ = some (.int .i64 a.lazy) := hcl2 5 _ rfl
      have i1 : (0 : Int) ≤ (i : Int) := by omega
      have i2 : (i : Int) < (m : Int) := by omega
      have hlater := haok.later
      have g1 : IntKind.i64.wrap (now + a.later) = now + a.later := IntWalk.i64_in _ (by have := HM40.out; omega)
      rw [← HM.out] at e1
      injection e1 with e1 e3 e4
      subst e1
      obtain ⟨now2, hnow2⟩ : ∃ now2, now2 = now + a.later := ⟨_, rfl⟩
      have hn2 : now ≤ now2 ∧ 0 ≤ now2 ∧ now2 ≤ 9 * (i + 1) ∧ now2 ≤ 1000000 := by have := HM40.out; omega
      obtain ⟨wa, hwa⟩ : ∃ wa, wr.alloc (.cells #[.int .i64 a.later, .int .i64 a.do_, .int .i64 a.n, .bool a.paused, .int .i64 a.sick, .int .i64 a.lazy] 74) = wa := ⟨_, rfl⟩
      have ba : Below wr.heap.size wr wa := by rw [← hwa]; exact (Below.refl _ _).alloc (Nat.le_refl _) _
      have za : wa.heap[wr.heap.size]? = some (.cells #[.int .i64 a.later, .int .i64 a.do_, .int .i64 a.n, .bool a.paused, .int .i64 a.sick, .int .i64 a.lazy] 74 (0, 0)) := by rw [← hwa]; exact heap_alloc_new wr _
      have HBA := Lib.hid ba
      have HSRA := Lib.hid ((HRI.out.sr.below ba).later hn2.1)
      have HGA := Lib.hid (HGL.out.mv (HRI.out.mv.below ba))
      have HAO := Lib.hid haok
      have HN2 := Lib.hid hn2
      have HOKA : Hid (D'.Ok now2 i) := HOK'.out.mono hn2.1 (Nat.le_refl _)
      have k0 := block_cell za 0 _ rfl
      have k1 := block_cell za 1 _ rfl
      have k2 := block_cell za 2 _ rfl
      have k3 := block_cell za 3 _ rfl
      have k4 := block_cell za 4 _ rfl
      have k5 := block_cell za 5 _ rfl
      clear ha haok e2 e3 e4 hcl hcl2 hg0 hgl hlater ba za hn2 hn0 hn1
      have HNOW2 := Lib.hid hnow2
      clear hnow2
      go_upto_block 2 with fail
      rw [← HNOW2.out]
      clear HNOW2 g1
      go_cut [13] from 17 to 84 (fun v wx => SwP wr sb hz now2 s faults (i + 1) D' v wx)
      case first =>
        clear q0 q1 q2 q3 q4 q5 t0 hwa
        have hik : i ≤ 40 := by have := HM40.out; omega
        rcases (show a.do_ = 0 ∨ a.do_ = 1 ∨ a.do_ = 2 ∨ a.do_ = 7 ∨ a.do_ = 8 ∨ (a.do_ ≠ 0 ∧ a.do_ ≠ 1 ∧ a.do_ ≠ 2 ∧ a.do_ ≠ 7 ∧ a.do_ ≠ 8) by omega) with hd | hd | hd | hd | hd | hd
        · have t0 : (a.do_ == 0) = true := by simp [hd]
          have t1 : (a.do_ == 1) = false := by simp [hd]
          have t2 : (a.do_ == 2) = false := by simp [hd]
          have t7 : (a.do_ == 7) = false := by simp [hd]
          have t8 : (a.do_ == 8) = false := by simp [hd]
          have HAT := Lib.hid (fun W => attempt_any a.n now2 (by have := HAO.out.n; omega) (by have := HN2.out; omega) W)
          have HCO : Hid (∀ W, Below wa.heap.size wa W → Calls Tryd.prog 13 #[.pointer (some ⟨sb, 0, none⟩), .int .i64 now2, cxV (atOf a.n now2)] W (ComePost W sb hz now2 s (atOf a.n now2) i D')) := fun W hb =>
            come_any (HSRA.out.below hb) HOKA.out (by omega) _ (by have := (atOf_small a.n now2).1; omega) (by have := (atOf_small a.n now2).2; omega)
          clear hd hik
          go_wp2_with fail
          refine (HAT.out _).mono ?_
          rintro e wb ⟨rfl, hbb⟩
          have HBB := Lib.hid hbb
          clear hbb
          go_wp2_with fail
          refine (HCO.out _ HBB.out).mono ?_
          rintro e wd ⟨D2, outs, v, fresh, rfl, sr2, ok2, mv2, ⟨ob2, hr2, hq2⟩, hcr⟩
          obtain ⟨la2, lc2, rfl⟩ := hr2.form
          have hmv := Mv.pre (D := D') (btrans HBA.out HBB.out) mv2
          have hol : outs.length ≤ 200 := by
            rcases hcr with ⟨_, _, rfl, _⟩ | ⟨_, _, _, q, _, ⟨_, _, rfl⟩ | ⟨_, y, _, rfl⟩⟩ <;> simp
          have HF : Hid (SwP wr sb hz now2 s faults (i + 1) D' (.slice la2 outs.length lc2) wd) := ⟨D2, outs, ob2, la2, lc2, rfl, sr2, hmv, hr2, fun g e => ⟨Nat.le_trans (btrans HBA.out HBB.out).size (hq2 g e).1, (hq2 g e).2⟩, ok2, .come hcr, hol⟩
          clear sr2 ok2 mv2 hr2 hq2 hcr hmv hol
          go_wp2_with fail
          go_meet
          exact HF.out
        · have t0 : (a.do_ == 0) = false := by simp [hd]
          have t1 : (a.do_ == 1) = true := by simp [hd]
          have t2 : (a.do_ == 2) = false := by simp [hd]
          have t7 : (a.do_ == 7) = false := by simp [hd]
          have t8 : (a.do_ == 8) = false := by simp [hd]
          have HAT := Lib.hid (fun W => attempt_any a.n now2 (by have := HAO.out.n; omega) (by have := HN2.out; omega) W)
          have HCO : Hid (∀ W, Below wa.heap.size wa W → Calls Tryd.prog 13 #[.pointer (some ⟨sb, 0, none⟩), .int .i64 now2, cxV (atOf a.n now2)] W (ComePost W sb hz now2 s (atOf a.n now2) i D')) := fun W hb =>
            come_any (HSRA.out.below hb) HOKA.out (by omega) _ (by have := (atOf_small a.n now2).1; omega) (by have := (atOf_small a.n now2).2; omega)
          clear hd hik
          go_wp2_with fail
          refine (HAT.out _).mono ?_
          rintro e wb ⟨rfl, hbb⟩
          have HBB := Lib.hid hbb
          clear hbb
          go_wp2_with fail
          refine (HCO.out _ HBB.out).mono ?_
          rintro e wd ⟨D2, outs, v, fresh, rfl, sr2, ok2, mv2, ⟨ob2, hr2, hq2⟩, hcr⟩
          obtain ⟨la2, lc2, rfl⟩ := hr2.form
          have hmv := Mv.pre (D := D') (btrans HBA.out HBB.out) mv2
          have hol : outs.length ≤ 200 := by
            rcases hcr with ⟨_, _, rfl, _⟩ | ⟨_, _, _, q, _, ⟨_, _, rfl⟩ | ⟨_, y, _, rfl⟩⟩ <;> simp
          have HF : Hid (SwP wr sb hz now2 s faults (i + 1) D' (.slice la2 outs.length lc2) wd) := ⟨D2, outs, ob2, la2, lc2, rfl, sr2, hmv, hr2, fun g e => ⟨Nat.le_trans (btrans HBA.out HBB.out).size (hq2 g e).1, (hq2 g e).2⟩, ok2, .come hcr, hol⟩
          clear sr2 ok2 mv2 hr2 hq2 hcr hmv hol
          go_wp2_with fail
          go_meet
          exact HF.out
        · have t0 : (a.do_ == 0) = false := by simp [hd]
          have t1 : (a.do_ == 1) = false := by simp [hd]
          have t2 : (a.do_ == 2) = true := by simp [hd]
          have t7 : (a.do_ == 7) = false := by simp [hd]
          have t8 : (a.do_ == 8) = false := by simp [hd]
          have HAT := Lib.hid (fun W => attempt_any a.n now2 (by have := HAO.out.n; omega) (by have := HN2.out; omega) W)
          have HCO : Hid (∀ W, Below wa.heap.size wa W → Calls Tryd.prog 13 #[.pointer (some ⟨sb, 0, none⟩), .int .i64 now2, cxV (atOf a.n now2)] W (ComePost W sb hz now2 s (atOf a.n now2) i D')) := fun W hb =>
            come_any (HSRA.out.below hb) HOKA.out (by omega) _ (by have := (atOf_small a.n now2).1; omega) (by have := (atOf_small a.n now2).2; omega)
          clear hd hik
          go_wp2_with fail
          refine (HAT.out _).mono ?_
          rintro e wb ⟨rfl, hbb⟩
          have HBB := Lib.hid hbb
          clear hbb
          go_wp2_with fail
          refine (HCO.out _ HBB.out).mono ?_
          rintro e wd ⟨D2, outs, v, fresh, rfl, sr2, ok2, mv2, ⟨ob2, hr2, hq2⟩, hcr⟩
          obtain ⟨la2, lc2, rfl⟩ := hr2.form
          have hmv := Mv.pre (D := D') (btrans HBA.out HBB.out) mv2
          have hol : outs.length ≤ 200 := by
            rcases hcr with ⟨_, _, rfl, _⟩ | ⟨_, _, _, q, _, ⟨_, _, rfl⟩ | ⟨_, y, _, rfl⟩⟩ <;> simp
          have HF : Hid (SwP wr sb hz now2 s faults (i + 1) D' (.slice la2 outs.length lc2) wd) := ⟨D2, outs, ob2, la2, lc2, rfl, sr2, hmv, hr2, fun g e => ⟨Nat.le_trans (btrans HBA.out HBB.out).size (hq2 g e).1, (hq2 g e).2⟩, ok2, .come hcr, hol⟩
          clear sr2 ok2 mv2 hr2 hq2 hcr hmv hol
          go_wp2_with fail
          go_meet
          exact HF.out
        · have t0 : (a.do_ == 0) = false := by simp [hd]
          have t1 : (a.do_ == 1) = false := by simp [hd]
          have t2 : (a.do_ == 2) = false := by simp [hd]
          have t7 : (a.do_ == 7) = true := by simp [hd]
          have t8 : (a.do_ == 8) = false := by simp [hd]
          have HNIL : Hid (∀ W D2, SR W sb hz s now2 D2 → Mv wr D' W D2 → D2.Ok now2 (i + 1) → ActR hz s faults now2 D'.t D2.t [] → SwP wr sb hz now2 s faults (i + 1) D' (.slice none 0 0) W) := fun W D2 h1 h2 h3 h4 => ⟨D2, [], none, none, 0, rfl, h1, h2, ouK.nil _, (fun g e => by cases e), h3, h4, by simp⟩
          have HCR := Lib.hid (crash_any (now' := now2) HSRA.out)
          clear hd hik
          cases faults with
          | false =>
            have HF := Lib.hid (HNIL.out wa D' HSRA.out ((Mv.refl wr D').below HBA.out) (HOKA.out.mono (Int.le_refl _) (Nat.le_succ _)) (.idle rfl))
            clear HNIL
            go_wp2_with fail
            go_meet
            exact HF.out
          | true =>
            go_wp2_with fail
            refine HCR.out.mono ?_
            rintro e wd ⟨rfl, who, qb, mb, cb, sr2, mv2⟩
            have HF := Lib.hid (HNIL.out wd _ sr2 (Mv.pre HBA.out mv2) ((HOKA.out.crashed who qb mb cb).mono (Int.le_refl _) (Nat.le_succ _)) (.crash rfl))
            clear HNIL sr2 mv2
            go_wp2_with fail
            go_meet
            exact HF.out
        · have t0 : (a.do_ == 0) = false := by simp [hd]
          have t1 : (a.do_ == 1) = false := by simp [hd]
          have t2 : (a.do_ == 2) = false := by simp [hd]
          have t7 : (a.do_ == 7) = false := by simp [hd]
          have t8 : (a.do_ == 8) = true := by simp [hd]
          have HUP := Lib.hid (up_any (now' := now2) HSRA.out)
          clear hd hik
          go_wp2_with fail
          refine HUP.out.mono ?_
          rintro e wd ⟨rfl, sr2, mv2⟩
          have HF : Hid (SwP wr sb hz now2 s faults (i + 1) D' (.slice none 0 0) wd) := ⟨_, [], none, none, 0, rfl, sr2, Mv.pre HBA.out mv2, ouK.nil _, (fun g e => by cases e), (HOKA.out.upAt HN2.out.2.1).mono (Int.le_refl _) (Nat.le_succ _), by rw [SD.upAt_t]; exact .up, by simp⟩
          clear sr2 mv2
          go_wp2_with fail
          go_meet
          exact HF.out
        · obtain ⟨hd0, hd1, hd2, hd7, hd8⟩ := hd
          have t0 : (a.do_ == 0) = false := beq_eq_false_iff_ne.2 hd0
          have t1 : (a.do_ == 1) = false := beq_eq_false_iff_ne.2 hd1
          have t2 : (a.do_ == 2) = false := beq_eq_false_iff_ne.2 hd2
          have t7 : (a.do_ == 7) = false := beq_eq_false_iff_ne.2 hd7
          have t8 : (a.do_ == 8) = false := beq_eq_false_iff_ne.2 hd8
          have HSP : Hid (∀ p, Calls Tryd.prog 14 #[.pointer (some ⟨sb, 0, none⟩), .int .i64 now2, .bool p, .int .i64 a.sick, .int .i64 a.lazy] wa (StepPost wa sb hz now2 s p a.sick a.lazy i D')) := fun p =>
            step_any HSRA.out HGA.out HOKA.out (by omega) hs (by have := HN2.out; omega) hz1 p a.sick a.lazy (by have := HAO.out.lazy; omega)
          clear hd0 hd1 hd2 hd7 hd8 hik
          cases hpa : a.paused with
          | false =>
            rw [hpa] at k3
            clear hpa
            go_wp2_with fail
            refine (HSP.out false).mono ?_
            rintro e wd ⟨D2, outs, v, rfl, sr2, mv2, ⟨ob2, hr2, hq2⟩, ok2, hcr, hol⟩
            obtain ⟨la2, lc2, rfl⟩ := hr2.form
            have HF : Hid (SwP wr sb hz now2 s faults (i + 1) D' (.slice la2 outs.length lc2) wd) := ⟨D2, outs, ob2, la2, lc2, rfl, sr2, Mv.pre HBA.out mv2, hr2, fun g e => ⟨Nat.le_trans HBA.out.size (hq2 g e).1, (hq2 g e).2⟩, ok2.mono (Int.le_refl _) (Nat.le_succ _), .step HAO.out.lazy (fun _ => rfl) hcr, hol⟩
            clear sr2 ok2 mv2 hr2 hq2 hcr hol
            go_wp2_with fail
            go_meet
            exact HF.out
          | true =>
            rw [hpa] at k3
            clear hpa
            go_wp2_with fail
            refine (HSP.out faults).mono ?_
            rintro e wd ⟨D2, outs, v, rfl, sr2, mv2, ⟨ob2, hr2, hq2⟩, ok2, hcr, hol⟩
            obtain ⟨la2, lc2, rfl⟩ := hr2.form
            have HF : Hid (SwP wr sb hz now2 s faults (i + 1) D' (.slice la2 outs.length lc2) wd) := ⟨D2, outs, ob2, la2, lc2, rfl, sr2, Mv.pre HBA.out mv2, hr2, fun g e => ⟨Nat.le_trans HBA.out.size (hq2 g e).1, (hq2 g e).2⟩, ok2.mono (Int.le_refl _) (Nat.le_succ _), .step HAO.out.lazy (id) hcr, hol⟩
            clear sr2 ok2 mv2 hr2 hq2 hcr hol
            go_wp2_with fail
            go_meet
            exact HF.out
      case rest =>
        obtain ⟨D2, outs, gb, la2, lc2, rfl, sr2, mv2, hg2, hgb, ok2, hact, hol⟩ := hcut
        obtain ⟨m2, hm2⟩ : ∃ m2, m2 = outs.length := ⟨_, rfl⟩
        rw [← hm2] at hg2 hol ⊢
        have HRc := HRI.out.later (now' := now2) HN2.out.1
        have hRc := HRc.move sr2 mv2
        have hin : RunI w1 sb hz now2 s D D2 all outs gb (.slice la2 m2 lc2) 0 (.slice la1 m1 lc1) wc := by
          have ha0 : all ++ atNow (outs.take 0) now2 = all := by rw [List.take_zero]; exact List.append_nil _
          refine ⟨ob, ?_, ⟨la1, lc1, by rw [ha0, ← HM1.out]⟩, hg2, fun g e e2 => ?_, fun g e => ⟨(hgb g e).2, Nat.le_trans HRI.out.mv.1.size (hgb g e).1⟩⟩
          · rw [ha0]; exact hRc
          · have h1 := HRI.out.r.lt g e2
            have h2 := (hgb g e).1
            omega
        have HIN := Lib.hid hin
        have HM2 := Lib.hid hm2
        have HACT := Lib.hid hact
        have HOK2 := Lib.hid ok2
        have HOL := Lib.hid hol
        clear q0 q1 q2 q3 q4 q5 k0 k1 k2 k3 k4 k5 hwa t0 sr2 mv2 hg2 hgb ok2 hact hm2 HRc hRc hin hol i1 i2
        go_wp2_with fail
        have hm2b : m2 ≤ 200 := HOL.out
        go_loopw [8, 14] (fun va vk wr2 => ∃ kk : Nat, vk = .int .i64 kk ∧ kk ≤ m2 ∧ Hid (RunI w1 sb hz now2 s D D2 all outs gb (.slice la2 m2 lc2) kk va wr2)) (fun _ vk _ => (m2 - intOf vk).toNat)
        case atStart => exact ⟨0, rfl, Nat.zero_le _, HIN.out⟩
        case round =>
          obtain ⟨kk, rfl, hkk, hl⟩ := hrel
          obtain ⟨ob3, hR3, ⟨la3, lc3, rfl⟩, hg3, hs3, hgf3⟩ := hl.out
          obtain ⟨m3, hm3⟩ : ∃ m3, m3 = (all ++ atNow (outs.take kk) now2).length := ⟨_, rfl⟩
          rw [← hm3] at hR3 ⊢
          have HM3' : Hid (m3 = m1 + kk) := by
            show m3 = m1 + kk
            rw [hm3, List.length_append, List.length_map, List.length_take, ← HM1.out, ← HM2.out]; omega
          have HR3 := Lib.hid hR3
          have HG3 := Lib.hid hg3
          have HS3 := Lib.hid hs3
          have HGF3 := Lib.hid hgf3
          have HM3 := Lib.hid hm3
          clear hl hR3 hg3 hs3 hgf3 hm3
          by_cases hkm : kk < m2
          · have t0 : decide ((kk : Int) < (m2 : Int)) = true := decide_eq_true (by omega)
            obtain ⟨o, ho⟩ : ∃ o, outs[kk]? = some o := ⟨_, List.getElem?_eq_getElem (by have := HM2.out; omega)⟩
            obtain ⟨g2, off2, lc4, e1, e2, hcl⟩ := HG3.out.cellsL (by have := HM2.out; omega)
            have hcl2 := hcl wr rfl kk o ho
            rw [← HM2.out] at e1
            injection e1 with e1 e3 e4
            subst e1
            have q0 : wr.cell? ⟨g2, off2 + kk * 12, none⟩ = some (.int .i64 o.what) := hcl2 0 _ rfl
            have q1 : wr.cell? ⟨g2, off2 + kk * 12 + 1, none⟩ = some (.int .i64 o.c.req) := hcl2 1 _ rfl
            have q2 : wr.cell? ⟨g2, off2 + kk * 12 + 2, none⟩ = some (.string o.c.call) := hcl2 2 _ rfl
            have q3 : wr.cell? ⟨g2, off2 + kk * 12 + 3, none⟩ = some (.int .i64 o.c.try_) := hcl2 3 _ rfl
            have q4 : wr.cell? ⟨g2, off2 + kk * 12 + 4, none⟩ = some (.bool o.c.idem) := hcl2 4 _ rfl
            have q5 : wr.cell? ⟨g2, off2 + kk * 12 + 5, none⟩ = some (.bool o.c.shadow) := hcl2 5 _ rfl
            have q6 : wr.cell? ⟨g2, off2 + kk * 12 + 6, none⟩ = some (.int .i64 o.c.dl) := hcl2 6 _ rfl
            have q7 : wr.cell? ⟨g2, off2 + kk * 12 + 7, none⟩ = some (.int .i64 o.c.purse) := hcl2 7 _ rfl
            have q8 : wr.cell? ⟨g2, off2 + kk * 12 + 8, none⟩ = some (.int .i64 o.c.ver) := hcl2 8 _ rfl
            have q9 : wr.cell? ⟨g2, off2 + kk * 12 + 9, none⟩ = some (.int .i64 o.c.prio) := hcl2 9 _ rfl
            have q10 : wr.cell? ⟨g2, off2 + kk * 12 + 10, none⟩ = some (.bool o.eff) := hcl2 10 _ rfl
            have q11 : wr.cell? ⟨g2, off2 + kk * 12 + 11, none⟩ = some (.int .i64 o.e) := hcl2 11 _ rfl
            have i1 : (0 : Int) ≤ (kk : Int) := by omega
            have i2 : (kk : Int) < (m2 : Int) := by omega
            obtain ⟨WA, hWA⟩ : ∃ WA, wr.alloc (.cells #[.int .i64 o.what, .int .i64 o.c.req, .string o.c.call, .int .i64 o.c.try_, .bool o.c.idem, .bool o.c.shadow, .int .i64 o.c.dl, .int .i64 o.c.purse, .int .i64 o.c.ver, .int .i64 o.c.prio, .bool o.eff, .int .i64 o.e, .int .i64 now2] 42) = WA := ⟨_, rfl⟩
            have bA : Below wr.heap.size wr WA := by rw [← hWA]; exact (Below.refl _ _).alloc (Nat.le_refl _) _
            have zA : WA.heap[wr.heap.size]? = some (.cells (seenK.f (o, now2)).toArray 42 (0, 0)) := by rw [← hWA]; exact heap_alloc_new wr _
            obtain ⟨la5, lc5, ob5, W9, hap0, hR9, hf9, hb9⟩ := (HR3.out.below bA).push HM3.out (by rw [← HM3.out]; have := HM3'.out; have := HOL.out; have := HM40.out; omega) zA 1
            have happ : (Builtin.append_ #[36, 36] 36 #[.slice la3 m3 lc3, .slice (some ⟨wr.heap.size, 0, none⟩) 1 1]).run Tryd.prog WA = .ok (.slice la5 (m3 + 1) lc5) W9 := hap0
            have hTK : outs.take (kk + 1) = outs.take kk ++ [o] := by rw [List.take_add_one, ho]; rfl
            have hLL : all ++ atNow (outs.take (kk + 1)) now2 = (all ++ atNow (outs.take kk) now2) ++ [(o, now2)] := by rw [hTK]; show all ++ (outs.take kk ++ [o]).map (fun o => (o, now2)) = _; rw [List.map_append, ← List.append_assoc]; rfl
            have HF : Hid (RunI w1 sb hz now2 s D D2 all outs gb (.slice (some ⟨g2, off2, none⟩) m2 lc2) (kk + 1) (.slice la5 (m3 + 1) lc5) W9) := by
              refine ⟨ob5, ?_, ⟨la5, lc5, ?_⟩, ?_, fun g e e5 => ?_, HGF3.out⟩
              · rw [hLL]; exact hR9
              · rw [hLL, List.length_append, ← HM3.out]; rfl
              · exact (HG3.out.below bA).keep fun g e => hf9.block g (Nat.lt_of_lt_of_le (HG3.out.lt g e) bA.size) fun e5 => HS3.out g e e5
              · rcases hb9 with e6 | e6
                · exact HS3.out g e (e6.symm.trans e5)
                · rw [e5] at e6; cases e6; have h1 := HG3.out.lt _ e; have h2 := bA.size; omega
            clear ho e2 e3 e4 hcl hcl2 bA zA hap0 hR9 hf9 hb9 hTK hLL
            go_wp2_with (at_builtin; refine wpList_run (by rfl) (exec_append _ _ _ _ (by rfl) _ _ (by rfl) (by rfl) happ) ?_)
            go_roundw
            case rel => exact ⟨kk + 1, by go_num, by omega, HF⟩
            case measure => simp [intOf]; omega
          · have t0 : decide ((kk : Int) < (m2 : Int)) = false := decide_eq_false (by omega)
            obtain rfl : kk = m2 := by omega
            have hfin : RunL w1 sb hz s faults D (i + 1) (.slice la3 m3 lc3) (.int .i64 now2) wr := by
              have hT : outs.take kk = outs := List.take_of_length_le (by rw [← HM2.out]; exact Nat.le_refl _)
              have hr := HR3.out
              rw [hT] at hr
              have hm := HM3.out
              rw [hT] at hm
              refine ⟨D2, all ++ atNow outs now2, ob3, now2, .act HR.out HN2.out.1 HACT.out, rfl, HN2.out.2.1, by have := HN2.out.2.2.1; omega, HOK2.out, ⟨la3, lc3, by rw [← hm]⟩, ?_, hr⟩
              rw [← hm]; have := HM3'.out; have := HOL.out; omega
            have HFN := Lib.hid hfin
            clear hfin
            go_wp2_with fail
            go_roundw
            case rel => exact ⟨i + 1, by go_num, by omega, HFN⟩
            case measure => simp [intOf]; omega
    · have t0 : decide ((i : Int) < (m : Int)) = false := decide_eq_false (by omega)
      obtain rfl : i = m := by omega
      have HF : Hid (RunPost w sb hz s faults D (.returned (.tuple #[.slice la1 m1 lc1, .int .i64 now])) wr) :=
        ⟨D', all, ob, now, _, rfl, HR.out, hn0, by have := HM40.out; omega, HOK'.out.mono (Int.le_refl _) HM40.out, by rw [← HM1.out]; have := HM40.out; omega, HRI.out.sr, Mv.pre HB1.out HRI.out.mv, HRI.out.r, fun g e => ⟨(HRI.out.o g e).1, Nat.le_trans HB1.out.size (HRI.out.o g e).2⟩⟩
      clear hn0 hn1 hal
      go_wp2_with fail
      exact bodyPost_ret (v := .tuple #[.slice la1 m1 lc1, .int .i64 now]) (by simp [results, Tryd.results18, go_sem]) rfl HF.out

end Go.Proofs.YtchjlkfkfcmhlaaDoor
