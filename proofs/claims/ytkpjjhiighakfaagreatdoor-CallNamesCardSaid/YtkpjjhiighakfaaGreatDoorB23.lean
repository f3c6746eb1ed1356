/- Ctx, Policy. -/
import Derived.Test.YtkpjjhiighakfaaGreatDoorB22
namespace Go.Proofs.YtkpjjhiighakfaaGreatDoor
open Go.RowKit
attribute [local go_sem ↓] Go.wp_at_zero Go.wp_at_succ

/-- A call, made of numbers (and of a text). -/
def ctxOf (l : List Int) (s : ByteArray) : Cx := ⟨1 + pickI l 0 300, s, 0, pickI l 1 2 == 0, false, 1 + pickI l 2 400, pickI l 1 20 / 2, 1 + pickI l 0 3, pickI l 0 4⟩
/-- A policy, made of numbers. -/
def polOf (l : List Int) : Pol := ⟨1 + pickI l 0 90, 1 + pickI l 1 8, pickI l 2 20, pickI l 3 60 * pickI l 3 2, pickI l 4 5, 1 + pickI l 4 7, pickI l 4 6⟩

def CtxPost (w : World) (l : List Int) (e : Ending) (w' : World) : Prop := ∃ s : ByteArray, s.size ≤ 3 ∧ e = .returned (cxVal (ctxOf l s)) ∧ Below w.heap.size w w'

theorem pick_named {w : World} {A : Option Addr} {n : Nat} {l : List Int} (h : ArgInts w A n l) (cap : Nat) (k m : Int) (j : Nat) (hj : k = j) (hj2 : j ≤ 1000) (hm : 1 ≤ m) (hm2 : m ≤ 1000000) :
    ∃ a, a = pickI l j m ∧ (0 ≤ a ∧ a < m) ∧ ∀ W, Below w.heap.size w W → Calls Tryz.prog 19 #[.slice A n cap, .int .i64 k, .int .i64 m] W fun e w' => e = .returned (.int .i64 a) ∧ W = w' :=
  ⟨_, rfl, pick_bd l j hm, fun _ hb => pick_any (h.keep hb) cap k m j hj hj2 hm hm2⟩

set_option maxRecDepth 8000 in
set_option maxHeartbeats 1000000 in
theorem ctx_any {w : World} {A : Option Addr} {n : Nat} {l : List Int} (h : ArgInts w A n l) (cap : Nat) :
    Calls Tryz.prog 12 #[.slice A n cap] w (CtxPost w l) := by
  obtain ⟨a, ha, ba, A1⟩ := pick_named h cap 0 300 0 rfl (by omega) (by omega) (by omega)
  obtain ⟨b, hb, bb, A2⟩ := pick_named h cap 1 2 1 rfl (by omega) (by omega) (by omega)
  obtain ⟨c, hc, bc, A3⟩ := pick_named h cap 2 400 2 rfl (by omega) (by omega) (by omega)
  obtain ⟨d, hd, bd, A4⟩ := pick_named h cap 1 20 1 rfl (by omega) (by omega) (by omega)
  obtain ⟨f, hf, bf, A5⟩ := pick_named h cap 0 3 0 rfl (by omega) (by omega) (by omega)
  obtain ⟨g, hg, bg, A6⟩ := pick_named h cap 0 4 0 rfl (by omega) (by omega) (by omega)
  have H1 := Lib.hid A1
  have H2 := Lib.hid A2
  have H3 := Lib.hid A3
  have H4 := Lib.hid A4
  have H5 := Lib.hid A5
  have H6 := Lib.hid A6
  obtain ⟨ba0, ba1⟩ := ba
  obtain ⟨bb0, bb1⟩ := bb
  obtain ⟨bc0, bc1⟩ := bc
  obtain ⟨bd0, bd1⟩ := bd
  obtain ⟨bf0, bf1⟩ := bf
  obtain ⟨bg0, bg1⟩ := bg
  have HE : Hid (∀ s, cxVal (ctxOf l s) = .agg #[.int .i64 (1 + a), .string s, .int .i64 0, .bool (b == 0), .bool false, .int .i64 (1 + c), .int .i64 (d / 2), .int .i64 (1 + f), .int .i64 g]) := by
    intro s; unfold cxVal ctxOf; rw [← ha, ← hb, ← hc, ← hd, ← hf, ← hg]
  clear A1 A2 A3 A4 A5 A6 ha hb hc hd hf hg h
  have HB0 : Hid (∀ ob, Below w.heap.size w (w.alloc ob)) := fun ob => (Below.refl _ _).alloc (Nat.le_refl _) ob
  go_enter Tryz.func12, Tryz.ntmps12
  go_wp2_with fail
  refine (H1.out _ (HB0.out _)).mono ?_
  rintro e w' ⟨rfl, rfl⟩
  go_wp2_with fail
  refine (decimal_any _ _ (by omega) (by omega)).mono ?_
  rintro e w2 ⟨s, hs, rfl, hb2⟩
  have HB2 := Lib.hid (hb2)
  have HB3 := Lib.hid (btrans (HB0.out _) hb2)
  clear hb2
  go_wp2_with fail
  refine (H2.out _ HB3.out).mono ?_
  rintro e w' ⟨rfl, rfl⟩
  go_wp2_with fail
  refine (H3.out _ HB3.out).mono ?_
  rintro e w' ⟨rfl, rfl⟩
  go_wp2_with fail
  refine (H4.out _ HB3.out).mono ?_
  rintro e w' ⟨rfl, rfl⟩
  go_wp2_with fail
  refine (H5.out _ HB3.out).mono ?_
  rintro e w' ⟨rfl, rfl⟩
  go_wp2_with fail
  refine (H6.out _ HB3.out).mono ?_
  rintro e w' ⟨rfl, rfl⟩
  have kN : w2.heap[w.heap.size]? = some (.cells #[.int .i64 0, .string ⟨#[]⟩, .int .i64 0, .bool false, .bool false, .int .i64 0, .int .i64 0, .int .i64 0, .int .i64 0] 25 (0, 0)) := (HB2.out.block w.heap.size (by simp)).trans (heap_alloc_new _ _)
  have k0 := block_cell kN 0 _ rfl
  have k1 := block_cell kN 1 _ rfl
  have k2 := block_cell kN 2 _ rfl
  have k3 := block_cell kN 3 _ rfl
  have k4 := block_cell kN 4 _ rfl
  have k5 := block_cell kN 5 _ rfl
  have k6 := block_cell kN 6 _ rfl
  have k7 := block_cell kN 7 _ rfl
  have k8 := block_cell kN 8 _ rfl
  have f0 := block_free kN 0
  have f1 := block_free kN 1
  have f2 := block_free kN 2
  have f3 := block_free kN 3
  have f4 := block_free kN 4
  have f5 := block_free kN 5
  have f6 := block_free kN 6
  have f7 := block_free kN 7
  have f8 := block_free kN 8
  have q1 := setsFrom_block w.heap.size 25 [.int .i64 (1 + a), .string s, .int .i64 0, .bool (b == 0), .bool false, .int .i64 (1 + c), .int .i64 (d / 2), .int .i64 (1 + f), .int .i64 g] 0 w2 _ kN
  have q2 := setsFrom_below w.heap.size (Nat.le_refl _) [.int .i64 (1 + a), .string s, .int .i64 0, .bool (b == 0), .bool false, .int .i64 (1 + c), .int .i64 (d / 2), .int .i64 (1 + f), .int .i64 g] 0 w2 HB3.out
  simp only [setsFrom, Nat.reduceAdd] at q1 q2
  simp only [arrFrom, Nat.reduceAdd, List.setIfInBounds_toArray, List.set_cons_zero, List.set_cons_succ] at q1
  obtain ⟨W, hW⟩ : ∃ W, W = setsFrom w2 w.heap.size 0 [.int .i64 (1 + a), .string s, .int .i64 0, .bool (b == 0), .bool false, .int .i64 (1 + c), .int .i64 (d / 2), .int .i64 (1 + f), .int .i64 g] := ⟨_, rfl⟩
  simp only [setsFrom, Nat.reduceAdd] at hW
  rw [← hW] at q1 q2
  have e1 := Lib.hid q1
  have e2 := Lib.hid q2
  have HW := Lib.hid hW
  clear q1 q2 kN hW
  go_wp2_with fail
  rw [← HW.out]
  have q1 := e1.out
  have r0 := block_cell q1 0 _ rfl
  have r1 := block_cell q1 1 _ rfl
  have r2 := block_cell q1 2 _ rfl
  have r3 := block_cell q1 3 _ rfl
  have r4 := block_cell q1 4 _ rfl
  have r5 := block_cell q1 5 _ rfl
  have r6 := block_cell q1 6 _ rfl
  have r7 := block_cell q1 7 _ rfl
  have r8 := block_cell q1 8 _ rfl
  exact bodyPost_ret (v := .agg #[.int .i64 (1 + a), .string s, .int .i64 0, .bool (b == 0), .bool false, .int .i64 (1 + c), .int .i64 (d / 2), .int .i64 (1 + f), .int .i64 g]) (by simp [results, Tryz.results12, go_sem, r0, r1, r2, r3, r4, r5, r6, r7, r8]) rfl ⟨s, hs, by rw [HE.out], e2.out⟩

def polVal (p : Pol) : Value := .agg #[.int .i64 p.tmo, .int .i64 p.tries, .int .i64 p.back, .int .i64 p.hedge, .int .i64 p.per, .int .i64 p.of, .int .i64 p.burst]

set_option maxRecDepth 8000 in
set_option maxHeartbeats 1000000 in
theorem pol_any {w : World} {A : Option Addr} {n : Nat} {l : List Int} (h : ArgInts w A n l) (cap : Nat) :
    Calls Tryz.prog 13 #[.slice A n cap] w fun e w' => e = .returned (polVal (polOf l)) ∧ Below w.heap.size w w' := by
  obtain ⟨a, ha, ⟨ba0, ba1⟩, A1⟩ := pick_named h cap 0 90 0 rfl (by omega) (by omega) (by omega)
  obtain ⟨b, hb, ⟨bb0, bb1⟩, A2⟩ := pick_named h cap 1 8 1 rfl (by omega) (by omega) (by omega)
  obtain ⟨c, hc, ⟨bc0, bc1⟩, A3⟩ := pick_named h cap 2 20 2 rfl (by omega) (by omega) (by omega)
  obtain ⟨d, hd, ⟨bd0, bd1⟩, A4⟩ := pick_named h cap 3 60 3 rfl (by omega) (by omega) (by omega)
  obtain ⟨f, hf, ⟨bf0, bf1⟩, A5⟩ := pick_named h cap 3 2 3 rfl (by omega) (by omega) (by omega)
  obtain ⟨g, hg, ⟨bg0, bg1⟩, A6⟩ := pick_named h cap 4 5 4 rfl (by omega) (by omega) (by omega)
  obtain ⟨i, hi, ⟨bi0, bi1⟩, A7⟩ := pick_named h cap 4 7 4 rfl (by omega) (by omega) (by omega)
  obtain ⟨j, hj, ⟨bj0, bj1⟩, A8⟩ := pick_named h cap 4 6 4 rfl (by omega) (by omega) (by omega)
  have H1 := Lib.hid A1
  have H2 := Lib.hid A2
  have H3 := Lib.hid A3
  have H4 := Lib.hid A4
  have H5 := Lib.hid A5
  have H6 := Lib.hid A6
  have H7 := Lib.hid A7
  have H8 := Lib.hid A8
  have HE : Hid (polVal (polOf l) = .agg #[.int .i64 (1 + a), .int .i64 (1 + b), .int .i64 c, .int .i64 (d * f), .int .i64 g, .int .i64 (1 + i), .int .i64 j]) := by
    unfold polVal polOf Hid; rw [← ha, ← hb, ← hc, ← hd, ← hf, ← hg, ← hi, ← hj]
  have hm : 0 ≤ d * f ∧ d * f ≤ 60 := by
    rcases (show f = 0 ∨ f = 1 by omega) with rfl | rfl <;> omega
  have hw := IntWalk.wrap64_in (d * f) (by omega)
  clear A1 A2 A3 A4 A5 A6 A7 A8 ha hb hc hd hf hg hi hj h hm
  have HB0 : Hid (∀ ob, Below w.heap.size w (w.alloc ob)) := fun ob => (Below.refl _ _).alloc (Nat.le_refl _) ob
  go_enter Tryz.func13, Tryz.ntmps13
  go_wp2_with fail
  refine (H1.out _ (HB0.out _)).mono ?_
  rintro e w' ⟨rfl, rfl⟩
  go_wp2_with fail
  refine (H2.out _ (HB0.out _)).mono ?_
  rintro e w' ⟨rfl, rfl⟩
  go_wp2_with fail
  refine (H3.out _ (HB0.out _)).mono ?_
  rintro e w' ⟨rfl, rfl⟩
  go_wp2_with fail
  refine (H4.out _ (HB0.out _)).mono ?_
  rintro e w' ⟨rfl, rfl⟩
  go_wp2_with fail
  refine (H5.out _ (HB0.out _)).mono ?_
  rintro e w' ⟨rfl, rfl⟩
  go_wp2_with fail
  refine (H6.out _ (HB0.out _)).mono ?_
  rintro e w' ⟨rfl, rfl⟩
  go_wp2_with fail
  refine (H7.out _ (HB0.out _)).mono ?_
  rintro e w' ⟨rfl, rfl⟩
  go_wp2_with fail
  refine (H8.out _ (HB0.out _)).mono ?_
  rintro e w' ⟨rfl, rfl⟩
  go_wp2_with fail
  go_returns
  exact ⟨by rw [HE.out], HB0.out _⟩

end Go.Proofs.YtkpjjhiighakfaaGreatDoor
