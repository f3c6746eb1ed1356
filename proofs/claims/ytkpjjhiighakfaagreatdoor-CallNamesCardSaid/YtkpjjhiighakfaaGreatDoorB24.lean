/- Steps. -/
import Derived.Test.YtkpjjhiighakfaaGreatDoorB23
namespace Go.Proofs.YtkpjjhiighakfaaGreatDoor
open Go.RowKit
attribute [local go_sem ↓] Go.wp_at_zero Go.wp_at_succ

structure St where
  wait : Int
  do_ : Int
  try_ : Int
  e : Int
  not_ : Int

def errs : List Int := [35, 37, 36, 0, 3, 33, 32, 34, 20, 4]
def stCells (s : St) : List Value := [.int .i64 s.wait, .int .i64 s.do_, .int .i64 s.try_, .int .i64 s.e, .int .i64 s.not_]
def stsCells (l : List St) : List Value := l.flatMap stCells
def stepOf (l : List Int) (i : Nat) : St :=
  let n := pickI l (i + 1) 100000
  ⟨pickI l i 40, n % 5, 1 + n / 5 % 4, if n / 100 % 6 = 0 then errs.getD (n / 600 % 10).toNat 0 else errs.getD (n / 20 % 5).toNat 0, if n / 7 % 5 = 0 then pickI l (i + 2) 300 else 0⟩
def stepsN (l : List Int) : Nat := min 24 (l.length / 3)
def stepsTo (l : List Int) (k : Nat) : List St := (List.range k).map fun j => stepOf l (3 * j)
def stepsOf (l : List Int) : List St := stepsTo l (stepsN l)

theorem stsCells_length (l : List St) : (stsCells l).length = l.length * 5 := by
  unfold stsCells
  induction l with
  | nil => rfl
  | cons a l ih => rw [List.flatMap_cons, List.length_append, ih, List.length_cons]; show 5 + _ = _; omega
theorem stsCells_append (l l' : List St) : stsCells (l ++ l') = stsCells l ++ stsCells l' := by simp [stsCells]
theorem stsCells_one (l : List St) : ∀ u ∈ stsCells l, u.oneCell' = true := by
  intro u hu
  obtain ⟨a, _, ha⟩ := List.mem_flatMap.1 hu
  simp only [stCells, List.mem_cons, List.not_mem_nil, or_false] at ha
  rcases ha with rfl | rfl | rfl | rfl | rfl <;> rfl
theorem infoSt : (Tryz.prog.info? 38).map (fun i => (i.zero, i.size, i.bytes)) = some (some (.agg #[.int .i64 0, .int .i64 0, .int .i64 0, .int .i64 0, .int .i64 0]), 5, 40) := by kernel_rfl

theorem stepsTo_succ (l : List Int) (k : Nat) : stepsTo l (k + 1) = stepsTo l k ++ [stepOf l (3 * k)] := by unfold stepsTo; rw [List.range_succ, List.map_append]; rfl
theorem stepsTo_length (l : List Int) (k : Nat) : (stepsTo l k).length = k := by unfold stepsTo; rw [List.length_map, List.length_range]

/-- What the loop knows. -/
structure StInv (w0 : World) (wr : World) (l : List Int) (k : Nat) (v : Value) : Prop where
  row : ∃ sb, RowAt wr 38 5 v k (stsCells (stepsTo l k)) sb ∧ ∀ g, sb = some g → w0.heap.size ≤ g
  below : Below w0.heap.size w0 wr

def StepsPost (w : World) (l : List Int) (e : Ending) (w' : World) : Prop := ∃ v sb, e = .returned v ∧ RowAt w' 38 5 v (stepsN l) (stsCells (stepsOf l)) sb ∧ (∀ g, sb = some g → w.heap.size ≤ g) ∧ Below w.heap.size w w'

theorem box5 {w : World} {vb : Nat} {a : St} {T : TypeId} (hv : w.heap[vb]? = some (.cells (stCells a).toArray T (0, 0))) :
    ∀ j u, (stsCells [a])[j]? = some u → w.cell? ((⟨vb, 0, none⟩ : Addr).add j) = some u := by
  intro j u hj
  rw [Addr.add_lit, Nat.zero_add, cell_of_row w vb j _ _ _ hv]
  have : stsCells [a] = stCells a := by simp [stsCells]
  rw [this] at hj
  rw [← hj]; simp

theorem st_push {w0 wr W : World} {l : List Int} {k : Nat} {la : Option Addr} {lc : Nat} (h : StInv w0 wr l k (.slice la k lc)) (hk : k ≤ 100) (hb : Below wr.heap.size wr W) {z : Nat} (hz : W.heap.size = z) {i : Nat} (hi : i = 3 * k) {a b c d e : Int} (hs : stepOf l i = ⟨a, b, c, d, e⟩) :
    ∃ la2 lc2 w2, (Builtin.append_ #[34, 34] 34 #[.slice la k lc, .slice (some ⟨z, 0, none⟩) 1 1]).run Tryz.prog (W.alloc (.cells #[.int .i64 a, .int .i64 b, .int .i64 c, .int .i64 d, .int .i64 e] 38)) = .ok (.slice la2 (k + 1) lc2) w2 ∧ StInv w0 w2 l (k + 1) (.slice la2 (k + 1) lc2) := by
  subst hi hz
  obtain ⟨⟨sb, hrow, hsb⟩, hbel⟩ := h
  have hb1 : Below wr.heap.size wr (W.alloc (.cells (stCells ⟨a, b, c, d, e⟩).toArray 38)) := hb.alloc hb.size _
  have hn1 := heap_alloc_new W (.cells (stCells ⟨a, b, c, d, e⟩).toArray 38)
  obtain ⟨la2, lc2, sb2, w2, hrun, hrow2, hg2, hsb2, _⟩ := row_append (P := Tryz.prog) (W.alloc (.cells (stCells ⟨a, b, c, d, e⟩).toArray 38)) 34 34 38 _ 5 40 Tryz.underlying34 infoSt rfl (hrow.keep hb1) ⟨W.heap.size, 0, none⟩ 1 1 (stsCells [⟨a, b, c, d, e⟩]) (by rw [stsCells_length]; rfl) (box5 hn1) (stsCells_one _) (by omega) (by omega) (by omega)
  refine ⟨la2, lc2, w2, hrun, ⟨sb2, ?_, fun g hg => ?_⟩, ?_⟩
  · rw [stepsTo_succ, stsCells_append, hs]; exact hrow2
  · rcases hsb2 with e' | e'
    · exact hsb g (e'.symm.trans hg)
    · rw [hg] at e'; cases e'
      have := hbel.size
      have := hb1.size
      omega
  · have h0 := btrans hbel hb1
    have h1 := h0.size
    have hg : Fr (fun x => sb = some x) (W.alloc (.cells (stCells ⟨a, b, c, d, e⟩).toArray 38)) w2 := Fr.ofGrown (F := fun x => sb = some x) hg2 (fun x hx => hx)
    refine ((Fr.ofBelow (F := fun x => sb = some x) h0).trans hg (fun _ h => .inl h)).toBelow (fun x hx e' => ?_)
    have := hsb x e'
    omega

/-- A step in a box of its own. -/
def BoxS (w : World) (a b c d e : Int) (v : Value) (w' : World) : Prop :=
  ∃ N, v = .pointer (some ⟨N, 0, none⟩) ∧ w.heap.size ≤ N ∧ w'.heap[N]? = some (.cells #[.int .i64 a, .int .i64 b, .int .i64 c, .int .i64 d, .int .i64 e] 38 (0, 0)) ∧ Below w.heap.size w w'

set_option maxRecDepth 8000 in
set_option maxHeartbeats 2000000 in
theorem steps_any {w : World} {A : Option Addr} {n : Nat} {l : List Int} (h : ArgInts w A n l) (cap : Nat) :
    Calls Tryz.prog 6 #[.slice A n cap] w (StepsPost w l) := by
  obtain ⟨w1, hw1⟩ : ∃ w1, w1 = w.alloc (.cells #[.int .i64 35, .int .i64 37, .int .i64 36, .int .i64 0, .int .i64 3, .int .i64 33, .int .i64 32, .int .i64 34, .int .i64 20, .int .i64 4] 36) := ⟨_, rfl⟩
  have hb1 : Below w.heap.size w w1 := by rw [hw1]; exact (Below.refl _ _).alloc (Nat.le_refl _) _
  have herr : w1.heap[w.heap.size]? = some (.cells #[.int .i64 35, .int .i64 37, .int .i64 36, .int .i64 0, .int .i64 3, .int .i64 33, .int .i64 32, .int .i64 34, .int .i64 20, .int .i64 4] 36 (0, 0)) := by rw [hw1]; exact heap_alloc_new w _
  have hcell : ∀ x : Nat, x < 10 → w1.cell? ⟨w.heap.size, x, none⟩ = some (.int .i64 (errs.getD x 0)) := by
    intro x hx
    refine block_cell herr x _ ?_
    match x, hx with
    | 0, _ => rfl | 1, _ => rfl | 2, _ => rfl | 3, _ => rfl | 4, _ => rfl | 5, _ => rfl | 6, _ => rfl | 7, _ => rfl | 8, _ => rfl | 9, _ => rfl
  have HC := Lib.hid hcell
  have hn : n = l.length := h.1.symm
  have HN := Lib.hid hn
  have hmax := h.2.1
  have HA := Lib.hid (h.keep hb1)
  have HB1 := Lib.hid hb1
  have HW1 := Lib.hid hw1
  obtain ⟨N, hN⟩ : ∃ N, N = stepsN l := ⟨_, rfl⟩
  have hN24 : N ≤ 24 := by rw [hN]; exact Nat.min_le_left _ _
  have HNN := Lib.hid hN
  clear h hb1 herr hcell hw1 hn hN
  go_enter Tryz.func6, Tryz.ntmps6
  go_wp2_with fail
  rw [← HW1.out]
  go_loopw [4, 5] (fun vo vi wr => ∃ i k : Nat, vi = .int .i64 i ∧ Hid (i = 3 * k) ∧ k ≤ N ∧ StInv w1 wr l k vo) (fun _ vi _ => (72 - intOf vi).toNat)
  case atStart => exact ⟨0, 0, rfl, rfl, Nat.zero_le _, ⟨⟨none, RowAt.nil _ _ _, fun g hg => by cases hg⟩, Below.refl _ _⟩⟩
  case round =>
    obtain ⟨i, k, rfl, hik, hk, hinv⟩ := hrel
    obtain ⟨⟨sb, hrow, hsb⟩, hbel⟩ := hinv
    obtain ⟨la, lc, rfl⟩ := hrow.form
    have HROW := Lib.hid hrow
    have HSB := Lib.hid hsb
    have HBEL := Lib.hid hbel
    by_cases hlt : k < N
    · have h3 : i + 2 < n ∧ i < 72 := by have h1 := hik.out; have h2 := HNN.out; have h3 := HN.out; unfold stepsN at h2; omega
      obtain ⟨h3a, h3b⟩ := h3
      have t1 : decide ((i : Int) + 2 < (n : Int)) = true := decide_eq_true (by omega)
      have t2 : decide ((i : Int) < 72) = true := decide_eq_true (by omega)
      obtain ⟨m, hm, ⟨m0, m1⟩, Q1⟩ := pick_named (HA.out.keep hbel) cap ((i : Int) + 1) 100000 (i + 1) (by omega) (by omega) (by omega) (by omega)
      obtain ⟨a, ha, ⟨a0, a1⟩, Q2⟩ := pick_named (HA.out.keep hbel) cap (i : Int) 40 i (by omega) (by omega) (by omega) (by omega)
      obtain ⟨b, hb, ⟨b0, b1⟩, Q3⟩ := pick_named (HA.out.keep hbel) cap ((i : Int) + 2) 300 (i + 2) (by omega) (by omega) (by omega) (by omega)
      have H1 := Lib.hid Q1
      have H2 := Lib.hid Q2
      have H3 := Lib.hid Q3
      have HE : Hid (stepOf l i = ⟨a, m % 5, 1 + m / 5 % 4, if m / 100 % 6 = 0 then errs.getD (m / 600 % 10).toNat 0 else errs.getD (m / 20 % 5).toNat 0, if m / 7 % 5 = 0 then b else 0⟩) := by
        unfold stepOf Hid; rw [← hm, ← ha, ← hb]
      have z1 := bkeep hbel (HC.out (m / 20 % 5).toNat (by omega))
      have z2 := bkeep hbel (HC.out (m / 600 % 10).toNat (by omega))
      obtain ⟨x1, hx1⟩ : ∃ x, x = errs.getD (m / 20 % 5).toNat 0 := ⟨_, rfl⟩
      obtain ⟨x2, hx2⟩ : ∃ x, x = errs.getD (m / 600 % 10).toNat 0 := ⟨_, rfl⟩
      rw [← hx1] at z1 HE
      rw [← hx2] at z2 HE
      clear hx1 hx2
      have y1 : 0 ≤ m / 20 % 5 := by omega
      have y2 : m / 20 % 5 < 10 := by omega
      have y3 : 0 ≤ m / 600 % 10 := by omega
      have y4 : m / 600 % 10 < 10 := by omega
      clear Q1 Q2 Q3 hm ha hb hrow hsb hbel
      go_wp2_with fail
      refine (H1.out _ (Below.refl _ _)).mono ?_
      rintro e w' ⟨rfl, rfl⟩
      go_wp2_with fail
      go_cut [7] from 24 to 39 (fun v wx => BoxS wr a (m % 5) (1 + m / 5 % 4) x1 0 v wx)
      case first =>
        have g0 : m.tmod 5 = m % 5 := Int.tmod_eq_emod_of_nonneg m0
        have g1 : m.tdiv 5 = m / 5 := Int.tdiv_eq_ediv_of_nonneg m0
        have g2 : (m / 5).tmod 4 = m / 5 % 4 := Int.tmod_eq_emod_of_nonneg (by omega)
        have g3 : m.tdiv 20 = m / 20 := Int.tdiv_eq_ediv_of_nonneg m0
        have g4 : (m / 20).tmod 5 = m / 20 % 5 := Int.tmod_eq_emod_of_nonneg (by omega)
        have g5 : IntKind.i64.wrap (m / 5) = m / 5 := IntWalk.i64_in _ (by omega)
        have g6 : IntKind.i64.wrap (m / 20) = m / 20 := IntWalk.i64_in _ (by omega)
        have g7 : IntKind.i64.wrap (1 + m / 5 % 4) = 1 + m / 5 % 4 := IntWalk.i64_in _ (by omega)
        go_region_held3 (fun w' => w'.cell? ⟨w.heap.size, (m / 20 % 5).toNat, none⟩ = some (.int .i64 x1)) (first | go_keep | exact bkeep ((Below.refl _ _).drew.alloc (Nat.le_refl _) _) z1) ((refine (H2.out _ (by first | exact (Below.refl _ _).drew | exact ((Below.refl _ _).alloc (Nat.le_refl _) _).drew)).mono ?_; rintro e w' ⟨rfl, rfl⟩))
        all_goals
          go_wp2_with fail
          go_meet
          exact ⟨_, rfl, Nat.le_refl _, heap_alloc_new wr _, ((Below.refl _ _).alloc (Nat.le_refl _) _).drew⟩
      case rest =>
        obtain ⟨N, rfl, hNw, hbox, hbx⟩ := hcut
        have k0 := block_cell hbox 0 _ rfl
        have k1 := block_cell hbox 1 _ rfl
        have k2 := block_cell hbox 2 _ rfl
        have k3 := block_cell hbox 3 _ rfl
        have k4 := block_cell hbox 4 _ rfl
        have f0 := block_free hbox 0
        have f1 := block_free hbox 1
        have f2 := block_free hbox 2
        have f3 := block_free hbox 3
        have f4 := block_free hbox 4
        have z2' := bkeep hbx z2
        rcases (show (m / 100 % 6 = 0 ∧ m / 7 % 5 = 0) ∨ (m / 100 % 6 = 0 ∧ ¬ m / 7 % 5 = 0) ∨ (¬ m / 100 % 6 = 0 ∧ m / 7 % 5 = 0) ∨ (¬ m / 100 % 6 = 0 ∧ ¬ m / 7 % 5 = 0) by omega) with ⟨hc1, hc2⟩ | ⟨hc1, hc2⟩ | ⟨hc1, hc2⟩ | ⟨hc1, hc2⟩
        · have HE' : Hid (stepOf l i = ⟨a, m % 5, 1 + m / 5 % 4, x2, b⟩) := by rw [HE.out, if_pos hc1, if_pos hc2]; exact rfl
          have u1 : (m / 100 % 6 == 0) = true := beq_iff_eq.2 hc1
          have u2 : (m / 7 % 5 == 0) = true := beq_iff_eq.2 hc2
          have hbox3 := setCell_block wc N 3 _ _ _ (.int .i64 x2) hbox
          have same3 := block_cell hbox3 3 (.int .i64 x2) rfl
          have same4 := block_cell (setCell_block (wc.setCell ⟨N, 3, none⟩ (.int .i64 x2)) N 4 _ _ _ (.int .i64 b) hbox3) 4 (.int .i64 b) rfl
          clear hbox3
          obtain ⟨la2, lc2, w5, happ, hinv⟩ := st_push (W := (wc.setCell ⟨N, 3, none⟩ (.int .i64 x2)).setCell ⟨N, 4, none⟩ (.int .i64 b)) ⟨⟨sb, HROW.out, HSB.out⟩, HBEL.out⟩ (by omega) ((hbx.setCell (p := ⟨N, 3, none⟩) hNw (.int .i64 x2)).setCell (p := ⟨N, 4, none⟩) hNw (.int .i64 b)) (z := wc.heap.size) (by simp [World.setCell]) hik.out HE'.out
          have HI := Lib.hid hinv
          have H3' := Lib.hid (H3.out _ (hbx.setCell (p := ⟨N, 3, none⟩) hNw (.int .i64 x2)))
          clear hc1 hc2 hinv hbx hbox
          go_wp2_with fail
          refine H3'.out.mono ?_
          rintro e w' ⟨rfl, rfl⟩
          go_wp2_with (at_builtin; refine wpList_run (by rfl) (exec_append _ _ _ _ (by rfl) _ _ (by rfl) (by rfl) happ) ?_)
          go_roundw
          case rel => exact ⟨i + 3, k + 1, by go_num, by have := hik.out; show _ = _; omega, by omega, HI.out⟩
          case measure => simp [intOf]; omega
        · have HE' : Hid (stepOf l i = ⟨a, m % 5, 1 + m / 5 % 4, x2, 0⟩) := by rw [HE.out, if_pos hc1, if_neg hc2]; exact rfl
          have u1 : (m / 100 % 6 == 0) = true := beq_iff_eq.2 hc1
          have u2 : (m / 7 % 5 == 0) = false := beq_eq_false_iff_ne.2 hc2
          have hbox3 := setCell_block wc N 3 _ _ _ (.int .i64 x2) hbox
          have same3 := block_cell hbox3 3 (.int .i64 x2) rfl
          clear hbox3
          obtain ⟨la2, lc2, w5, happ, hinv⟩ := st_push (W := wc.setCell ⟨N, 3, none⟩ (.int .i64 x2)) ⟨⟨sb, HROW.out, HSB.out⟩, HBEL.out⟩ (by omega) (hbx.setCell (p := ⟨N, 3, none⟩) hNw (.int .i64 x2)) (z := wc.heap.size) (by simp [World.setCell]) hik.out HE'.out
          have HI := Lib.hid hinv
          have H3' := Lib.hid (H3.out _ (hbx.setCell (p := ⟨N, 3, none⟩) hNw (.int .i64 x2)))
          clear hc1 hc2 hinv hbx hbox
          go_wp2_with (at_builtin; refine wpList_run (by rfl) (exec_append _ _ _ _ (by rfl) _ _ (by rfl) (by rfl) happ) ?_)
          go_roundw
          case rel => exact ⟨i + 3, k + 1, by go_num, by have := hik.out; show _ = _; omega, by omega, HI.out⟩
          case measure => simp [intOf]; omega
        · have HE' : Hid (stepOf l i = ⟨a, m % 5, 1 + m / 5 % 4, x1, b⟩) := by rw [HE.out, if_neg hc1, if_pos hc2]; exact rfl
          have u1 : (m / 100 % 6 == 0) = false := beq_eq_false_iff_ne.2 hc1
          have u2 : (m / 7 % 5 == 0) = true := beq_iff_eq.2 hc2
          have same4 := block_cell (setCell_block wc N 4 _ _ _ (.int .i64 b) hbox) 4 (.int .i64 b) rfl
          obtain ⟨la2, lc2, w5, happ, hinv⟩ := st_push (W := wc.setCell ⟨N, 4, none⟩ (.int .i64 b)) ⟨⟨sb, HROW.out, HSB.out⟩, HBEL.out⟩ (by omega) (hbx.setCell (p := ⟨N, 4, none⟩) hNw (.int .i64 b)) (z := wc.heap.size) (by simp [World.setCell]) hik.out HE'.out
          have HI := Lib.hid hinv
          have H3' := Lib.hid (H3.out _ (hbx))
          clear hc1 hc2 hinv hbx hbox
          go_wp2_with fail
          refine H3'.out.mono ?_
          rintro e w' ⟨rfl, rfl⟩
          go_wp2_with (at_builtin; refine wpList_run (by rfl) (exec_append _ _ _ _ (by rfl) _ _ (by rfl) (by rfl) happ) ?_)
          go_roundw
          case rel => exact ⟨i + 3, k + 1, by go_num, by have := hik.out; show _ = _; omega, by omega, HI.out⟩
          case measure => simp [intOf]; omega
        · have HE' : Hid (stepOf l i = ⟨a, m % 5, 1 + m / 5 % 4, x1, 0⟩) := by rw [HE.out, if_neg hc1, if_neg hc2]; exact rfl
          have u1 : (m / 100 % 6 == 0) = false := beq_eq_false_iff_ne.2 hc1
          have u2 : (m / 7 % 5 == 0) = false := beq_eq_false_iff_ne.2 hc2
          obtain ⟨la2, lc2, w5, happ, hinv⟩ := st_push (W := wc) ⟨⟨sb, HROW.out, HSB.out⟩, HBEL.out⟩ (by omega) (hbx) (z := wc.heap.size) rfl hik.out HE'.out
          have HI := Lib.hid hinv
          have H3' := Lib.hid (H3.out _ (hbx))
          clear hc1 hc2 hinv hbx hbox
          go_wp2_with (at_builtin; refine wpList_run (by rfl) (exec_append _ _ _ _ (by rfl) _ _ (by rfl) (by rfl) happ) ?_)
          go_roundw
          case rel => exact ⟨i + 3, k + 1, by go_num, by have := hik.out; show _ = _; omega, by omega, HI.out⟩
          case measure => simp [intOf]; omega
    · obtain rfl : N = k := by omega
      have HFIN : Hid (∃ sb, RowAt wr 38 5 (.slice la N lc) (stepsN l) (stsCells (stepsOf l)) sb ∧ (∀ g, sb = some g → w.heap.size ≤ g) ∧ Below w.heap.size w wr) := by
        refine ⟨sb, ?_, fun g hg => Nat.le_trans HB1.out.size (HSB.out g hg), btrans HB1.out HBEL.out⟩
        have := HROW.out
        unfold stepsOf
        rw [← HNN.out]; exact this
      have hi72 : i ≤ 72 := by have := hik.out; omega
      clear hrow hsb hbel
      by_cases h3 : i + 2 < n
      · have t1 : decide ((i : Int) + 2 < (n : Int)) = true := decide_eq_true (by omega)
        have t2 : decide ((i : Int) < 72) = false := decide_eq_false (by have h1 := hik.out; have h2 := HNN.out; have h3 := HN.out; unfold stepsN at h2; omega)
        go_wp2_with fail
        go_ret
        obtain ⟨sb, g1, g2, g3⟩ := HFIN.out
        exact ⟨_, sb, rfl, g1, g2, g3⟩
      · have t1 : decide ((i : Int) + 2 < (n : Int)) = false := decide_eq_false (by omega)
        go_wp2_with fail
        go_ret
        obtain ⟨sb, g1, g2, g3⟩ := HFIN.out
        exact ⟨_, sb, rfl, g1, g2, g3⟩

end Go.Proofs.YtkpjjhiighakfaaGreatDoor
