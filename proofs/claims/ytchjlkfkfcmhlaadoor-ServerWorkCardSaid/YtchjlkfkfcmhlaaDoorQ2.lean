/- The queue: as it lies in memory; The queue: what is shed; The queue: the next one; Clamp: picked out of XM4; The queue: one more; The queue, by the list of what waits. -/
import Derived.Test.YtchjlkfkfcmhlaaDoorQ1
import Derived.WalkMore
import Derived.Test.YtchjlkfkfcmhlaaDoorRow
namespace Go.Proofs.YtchjlkfkfcmhlaaDoor
open Go.RowKit
attribute [local go_sem ↓] Go.wp_at_zero Go.wp_at_succ

/-! The queue: as it lies in memory. -/

def upd {α : Type} (f : Nat → α) (p : Nat) (x : α) : Nat → α := fun q => if q = p then x else f q
theorem upd_same {α : Type} (f : Nat → α) (p : Nat) (x : α) : upd f p x p = x := if_pos rfl
theorem upd_other {α : Type} (f : Nat → α) {p q : Nat} (x : α) (h : q ≠ p) : upd f p x q = f q := if_neg h

def qCells (most n : Int) (R : Nat → Rw) (V : Nat → Value) : Array Value :=
  #[.int .i64 most, .int .i64 n, V 0, .bool (R 0).taken, .int .i64 (R 0).last, V 1, .bool (R 1).taken, .int .i64 (R 1).last, V 2, .bool (R 2).taken, .int .i64 (R 2).last, V 3, .bool (R 3).taken, .int .i64 (R 3).last]

theorem q_cells (most n : Int) (R : Nat → Rw) (V : Nat → Value) {p : Nat} (hp : p < 4) : (qCells most n R V)[2 + p * 3]? = some (V p) ∧ (qCells most n R V)[2 + p * 3 + 1]? = some (.bool (R p).taken) ∧ (qCells most n R V)[2 + p * 3 + 2]? = some (.int .i64 (R p).last) := by
  rcases (show p = 0 ∨ p = 1 ∨ p = 2 ∨ p = 3 by omega) with rfl | rfl | rfl | rfl <;> exact ⟨rfl, rfl, rfl⟩
theorem q_setv (most n : Int) (R : Nat → Rw) (V : Nat → Value) {p : Nat} (hp : p < 4) (v : Value) (l : List (Int × Int × Int)) : (qCells most n R V).setIfInBounds (2 + p * 3) v = qCells most n (upd R p { R p with items := l }) (upd V p v) := by
  rcases (show p = 0 ∨ p = 1 ∨ p = 2 ∨ p = 3 by omega) with rfl | rfl | rfl | rfl <;> rfl
theorem q_seti (most n : Int) (R : Nat → Rw) (V : Nat → Value) (p : Nat) (l : List (Int × Int × Int)) : qCells most n (upd R p { R p with items := l }) V = qCells most n R V := by
  have h : ∀ q, (upd R p { R p with items := l } q).taken = (R q).taken ∧ (upd R p { R p with items := l } q).last = (R q).last := fun q => by
    unfold upd; split
    · rename_i e; subst e; exact ⟨rfl, rfl⟩
    · exact ⟨rfl, rfl⟩
  unfold qCells
  rw [(h 0).1, (h 0).2, (h 1).1, (h 1).2, (h 2).1, (h 2).2, (h 3).1, (h 3).2]
theorem q_setl (most n : Int) (R : Nat → Rw) (V : Nat → Value) {p : Nat} (hp : p < 4) (f : Int) : ((qCells most n R V).setIfInBounds (2 + p * 3 + 1) (.bool true)).setIfInBounds (2 + p * 3 + 2) (.int .i64 f) = qCells most n (upd R p { R p with taken := true, last := f }) V := by
  rcases (show p = 0 ∨ p = 1 ∨ p = 2 ∨ p = 3 by omega) with rfl | rfl | rfl | rfl <;> rfl
theorem q_setn (most n m : Int) (R : Nat → Rw) (V : Nat → Value) : (qCells most n R V).setIfInBounds 1 (.int .i64 m) = qCells most m R V := rfl

/-- All that waits. -/
def allOf (R : Nat → Rw) : List (Int × Int × Int) := (R 0).items ++ ((R 1).items ++ ((R 2).items ++ (R 3).items))
theorem all_add (R : Nat → Rw) {p : Nat} (hp : p < 4) (x : Int × Int × Int) : (allOf (upd R p { R p with items := (R p).items ++ [x] })).Perm (x :: allOf R) := by
  have h : ∀ (a b : List (Int × Int × Int)), ((a ++ [x]) ++ b).Perm (x :: (a ++ b)) := fun a b => by
    rw [List.append_assoc]; exact List.perm_middle
  rcases (show p = 0 ∨ p = 1 ∨ p = 2 ∨ p = 3 by omega) with rfl | rfl | rfl | rfl
  · exact h _ _
  · exact ((h _ _).append_left (R 0).items).trans List.perm_middle
  · exact (((h _ _).append_left (R 1).items).append_left (R 0).items).trans ((List.perm_middle.append_left (R 0).items).trans List.perm_middle)
  · have h3 : ((R 3).items ++ [x]).Perm (x :: (R 3).items) := by simp
    exact (((h3.append_left (R 2).items).append_left (R 1).items).append_left (R 0).items).trans (((List.perm_middle.append_left (R 1).items).append_left (R 0).items).trans ((List.perm_middle.append_left (R 0).items).trans List.perm_middle))
theorem erase_perm {l : List (Int × Int × Int)} {i : Nat} {x : Int × Int × Int} (h : l[i]? = some x) : l.Perm (x :: l.eraseIdx i) := by
  have hi := (List.getElem?_eq_some_iff.1 h).1
  have hx := (List.getElem?_eq_some_iff.1 h).2
  have e : l = l.take i ++ x :: l.drop (i + 1) := by rw [← hx, ← List.drop_eq_getElem_cons hi, List.take_append_drop]
  rw [List.eraseIdx_eq_take_drop_succ]
  conv => lhs; rw [e]
  exact List.perm_middle
theorem all_del (R : Nat → Rw) {p : Nat} (hp : p < 4) {i : Nat} {x : Int × Int × Int} (h : (R p).items[i]? = some x) : (x :: allOf (upd R p { R p with items := (R p).items.eraseIdx i })).Perm (allOf R) := by
  refine List.Perm.trans ?_ (?_ : List.Perm (allOf (upd R p { R p with items := x :: (R p).items.eraseIdx i })) (allOf R))
  · have h2 : ∀ (a b c : List (Int × Int × Int)), (x :: (a ++ (b ++ c))).Perm (a ++ (x :: b ++ c)) := fun a b c => List.perm_middle.symm
    rcases (show p = 0 ∨ p = 1 ∨ p = 2 ∨ p = 3 by omega) with rfl | rfl | rfl | rfl
    · exact List.Perm.refl _
    · exact h2 _ _ _
    · exact List.perm_middle.symm.trans ((h2 _ _ _).append_left _)
    · exact List.perm_middle.symm.trans ((List.perm_middle.symm.trans (List.perm_middle.symm.append_left _)).append_left _)
  · have h2 := (erase_perm h).symm
    rcases (show p = 0 ∨ p = 1 ∨ p = 2 ∨ p = 3 by omega) with rfl | rfl | rfl | rfl
    · exact h2.append_right _
    · exact (h2.append_right _).append_left _
    · exact ((h2.append_right _).append_left _).append_left _
    · exact ((h2.append_left _).append_left _).append_left _

structure QAt (w : World) (qb : Nat) (most n : Int) (R : Nat → Rw) (V : Nat → Value) (B : Nat → Option Nat) (fp : Nat → Prop) : Prop where
  blk : w.heap[qb]? = some (.cells (qCells most n R V) 90 (0, 0))
  row : ∀ p, p < 4 → RowAt w 67 3 (V p) (R p).items.length (entCells (R p).items) (B p)
  sep : ∀ p, p < 4 → ∀ g, B p = some g → fp g ∧ g ≠ qb ∧ ∀ q, q < 4 → B q = some g → q = p
  own : fp qb
  lt : ∀ b, fp b → b < w.heap.size

theorem QAt.keep {w w' : World} {qb : Nat} {most n : Int} {R : Nat → Rw} {V : Nat → Value} {B : Nat → Option Nat} {fp : Nat → Prop} (h : QAt w qb most n R V B fp) (hb : ∀ b, fp b → w'.heap[b]? = w.heap[b]?) : QAt w' qb most n R V B fp :=
  ⟨(hb qb h.own).trans h.blk, fun p hp => (h.row p hp).below fun g hg => hb g (h.sep p hp g hg).1, h.sep, h.own, fun b hf => by
    have h1 := h.lt b hf
    have h2 := hb b hf
    rw [Array.getElem?_eq_getElem h1] at h2
    exact (Array.getElem?_eq_some_iff.1 h2).1⟩
theorem QAt.below {w w' : World} {qb : Nat} {most n : Int} {R : Nat → Rw} {V : Nat → Value} {B : Nat → Option Nat} {fp : Nat → Prop} (h : QAt w qb most n R V B fp) (hb : Below w.heap.size w w') : QAt w' qb most n R V B fp :=
  h.keep fun b hf => hb.block b (h.lt b hf)

/-- The queue at qb holds the items of l, in some order; it may write the blocks of fp. -/
def QW (w : World) (qb : Nat) (most : Int) (l : List (Int × Int × Int)) (fp : Nat → Prop) : Prop := ∃ R V B, QAt w qb most (l.length : Int) R V B fp ∧ (allOf R).Perm l
theorem QW.keep {w w' : World} {qb : Nat} {most : Int} {l : List (Int × Int × Int)} {fp : Nat → Prop} (h : QW w qb most l fp) (hb : ∀ b, fp b → w'.heap[b]? = w.heap[b]?) : QW w' qb most l fp := by
  obtain ⟨R, V, B, h1, h2⟩ := h
  exact ⟨R, V, B, h1.keep hb, h2⟩
theorem QW.lt {w : World} {qb : Nat} {most : Int} {l : List (Int × Int × Int)} {fp : Nat → Prop} (h : QW w qb most l fp) : ∀ b, fp b → b < w.heap.size := by
  obtain ⟨R, V, B, h1, h2⟩ := h
  exact h1.lt
theorem QW.below {w w' : World} {qb : Nat} {most : Int} {l : List (Int × Int × Int)} {fp : Nat → Prop} (h : QW w qb most l fp) (hb : Below w.heap.size w w') : QW w' qb most l fp :=
  h.keep fun b hf => hb.block b (h.lt b hf)

/-! The queue: what is shed. -/

theorem all_none {R : Nat → Rw} (h : ∀ q, q < 4 → (R q).items.length = 0) : allOf R = [] := by
  have e : ∀ q, q < 4 → (R q).items = [] := fun q hq => List.eq_nil_of_length_eq_zero (h q hq)
  unfold allOf
  rw [e 0 (by omega), e 1 (by omega), e 2 (by omega), e 3 (by omega)]; rfl
theorem all_some {R : Nat → Rw} {p : Nat} (hp : p < 4) : (R p).items.length ≤ (allOf R).length := by
  unfold allOf
  simp only [List.length_append]
  rcases (show p = 0 ∨ p = 1 ∨ p = 2 ∨ p = 3 by omega) with rfl | rfl | rfl | rfl <;> omega

theorem QAt.cells {w : World} {qb : Nat} {most n : Int} {R : Nat → Rw} {V : Nat → Value} {B : Nat → Option Nat} {fp : Nat → Prop} (h : QAt w qb most n R V B fp) {p : Nat} (hp : p < 4) : RwAt w qb (2 + p * 3) (R p) (V p) (B p) := by
  obtain ⟨a, b, c⟩ := q_cells most n R V hp
  exact ⟨block_cell h.blk _ _ a, block_cell h.blk _ _ b, block_cell h.blk _ _ c, h.row p hp⟩
theorem QAt.lead {w : World} {qb : Nat} {most n : Int} {R : Nat → Rw} {V : Nat → Value} {B : Nat → Option Nat} {fp : Nat → Prop} (h : QAt w qb most n R V B fp) : w.cell? ⟨qb, 0, none⟩ = some (.int .i64 most) ∧ w.cell? ⟨qb, 1, none⟩ = some (.int .i64 n) :=
  ⟨block_cell h.blk 0 _ rfl, block_cell h.blk 1 _ rfl⟩

/-- Behind an item taken off one row, and one off the count. -/
theorem QAt.removed {w w1 w2 : World} {qb : Nat} {most n : Int} {R : Nat → Rw} {V : Nat → Value} {B : Nat → Option Nat} {fp : Nat → Prop} (h : QAt w qb most n R V B fp) {p : Nat} (hp : p < 4) {g : Nat} {v' : Value} {l : List (Int × Int × Int)} (hB : B p = some g)
    (hq : w1.heap[qb]? = some (.cells ((qCells most n R V).setIfInBounds (2 + p * 3) v') 90 (0, 0))) (hr : RowAt w1 67 3 v' l.length (entCells l) (some g)) (hf : Fr (fun k => k = qb ∨ k = g) w w1) (m : Int)
    (h2 : w2.heap[qb]? = some (.cells (((qCells most n R V).setIfInBounds (2 + p * 3) v').setIfInBounds 1 (.int .i64 m)) 90 (0, 0))) (hf2 : Fr (fun k => k = qb) w1 w2) :
    QAt w2 qb most m (upd R p { R p with items := l }) (upd V p v') B fp := by
  obtain ⟨sf, sq, su⟩ := h.sep p hp g hB
  have hfr : Fr (fun k => k = qb ∨ k = g) w w2 := hf.trans hf2 (fun b hb => .inl (.inl hb))
  refine ⟨?_, fun q hq' => ?_, h.sep, h.own, fun b hb => Nat.lt_of_lt_of_le (h.lt b hb) hfr.size⟩
  · rw [h2, q_setv most n R V hp v' l, q_setn]
  · by_cases e : q = p
    · subst e
      rw [upd_same, upd_same, hB]
      exact hr.below fun k hk => by cases hk; exact hf2.block g (hr.lt g rfl) sq
    · rw [upd_other _ _ e, upd_other _ _ e]
      exact (h.row q hq').below fun k hk => hfr.block k ((h.row q hq').lt k hk) (by
        rintro (hc | hc)
        · exact (h.sep q hq' k hk).2.1 hc
        · subst hc; exact e ((h.sep p hp k hB).2.2 q hq' hk))

def Shed (w : World) (qb : Nat) (most n : Int) (R : Nat → Rw) (B : Nat → Option Nat) (fp : Nat → Prop) (e : Ending) (w' : World) : Prop :=
  ∃ y R' V', e = .returned (itV y) ∧ QAt w' qb most (n - 1) R' V' B fp ∧ (y :: allOf R').Perm (allOf R) ∧ Fr fp w w'

set_option maxRecDepth 8000 in
set_option maxHeartbeats 4000000 in
theorem shed_any {w : World} {qb : Nat} {most n : Int} {R : Nat → Rw} {V : Nat → Value} {B : Nat → Option Nat} {fp : Nat → Prop} (h : QAt w qb most n R V B fp) (hn : n = (allOf R).length) (hpos : 0 < n) (hbig : n ≤ 1000) :
    Calls Tryd.prog 40 #[.pointer (some ⟨qb, 0, none⟩)] w (Shed w qb most n R B fp) := by
  have hqz := h.lt qb h.own
  have hb1 : Below w.heap.size w (w.alloc (.cells #[.int .i64 0, .int .i64 0, .int .i64 0] 67)) := (Below.refl _ _).alloc (Nat.le_refl _) _
  obtain ⟨W1, hW1⟩ : ∃ W1, w.alloc (.cells #[.int .i64 0, .int .i64 0, .int .i64 0] 67) = W1 := ⟨_, rfl⟩
  have r1 : W1.heap[w.heap.size]? = some (.cells #[.int .i64 0, .int .i64 0, .int .i64 0] 67 (0, 0)) := by rw [← hW1]; exact heap_alloc_new w _
  have z1 : W1.heap.size = w.heap.size + 1 := by rw [← hW1]; simp
  rw [hW1] at hb1
  obtain ⟨W2, hW2⟩ : ∃ W2, W1.alloc (.cells #[.int .i64 0, .int .i64 0, .int .i64 0] 67) = W2 := ⟨_, rfl⟩
  have hb2 : Below W1.heap.size W1 W2 := by rw [← hW2]; exact (Below.refl _ _).alloc (Nat.le_refl _) _
  have r2 : W2.heap[W1.heap.size]? = some (.cells #[.int .i64 0, .int .i64 0, .int .i64 0] 67 (0, 0)) := by rw [← hW2]; exact heap_alloc_new W1 _
  have z2 : W2.heap.size = w.heap.size + 2 := by rw [← hW2]; simp; omega
  have r1' := (hb2.block _ (by omega)).trans r1
  have hb12 := btrans hb1 hb2
  obtain ⟨N2, hN2⟩ : ∃ N2, W1.heap.size = N2 := ⟨_, rfl⟩
  rw [hN2] at r2
  have HR2 := Lib.hid r2
  have HR1 := Lib.hid r1'
  have HZ2 := Lib.hid z2
  have HN2 : Hid (N2 = w.heap.size + 1) := hN2.symm.trans z1
  have HB12 := Lib.hid hb12
  have HQ := Lib.hid (h.below hb12)
  have HQ0 := Lib.hid h
  have HN := Lib.hid hn
  clear h r1 z1 r2 r1' z2 hb1 hb2 hb12 hn
  go_enter Tryd.func40, Tryd.ntmps40
  go_wp2_with fail
  go_step3
  go_wp2_with fail
  go_step3
  go_wp2_with fail
  clear hW1 hW2 hN2
  go_loopw [8] (fun vi wr => ∃ (p : Nat), vi = .int .i64 p ∧ p ≤ 4 ∧ Hid (∀ q, q < p → (R q).items.length = 0) ∧ Below W2.heap.size W2 wr) (fun vi _ => (4 - intOf vi).toNat)
  case atStart => exact ⟨0, rfl, Nat.zero_le _, (fun q hq => by omega), Below.refl _ _⟩
  case round =>
    obtain ⟨p, rfl, hp4, hno, hbl⟩ := hrel
    by_cases hp : p < 4
    · have hqr := HQ.out.below hbl
      have hrw := hqr.cells hp
      have k0 := hrw.c0
      have i1 : (0 : Int) ≤ (p : Int) := by omega
      have i2 : (p : Int) < 4 := by omega
      have HBL := Lib.hid hbl
      have HQR := Lib.hid hqr
      have hle := all_some (R := R) hp
      obtain ⟨m, hm⟩ : ∃ m, m = (R p).items.length := ⟨_, rfl⟩
      obtain ⟨la, lc, hv⟩ := hrw.row.form
      rw [← hm] at hv
      have HV := Lib.hid hv
      rw [hv] at k0
      have HM := Lib.hid hm
      have hm1 : m ≤ 1000 := by rw [hm]; have := HN.out; omega
      by_cases he : m = 0
      · have hno' : Hid (∀ q, q < p + 1 → (R q).items.length = 0) := fun q hq => by
          rcases Nat.lt_or_ge q p with h | h
          · exact hno.out q h
          · rw [show q = p by omega, ← HM.out, he]
        clear hqr hrw hbl hle hm hv hno
        subst he
        go_wp2_with fail
        go_roundw
        case rel => exact ⟨p + 1, by go_num, by omega, hno', HBL.out⟩
        case measure => simp [intOf]; omega
      · have b0 : ((m : Int) == 0) = false := beq_eq_false_iff_ne.2 (by omega)
        have HFU := Lib.hid (fullest_any hrw (by rw [← hm]; omega) (by rw [← hm]; omega))
        clear hqr hrw hbl hle hm hv hno
        go_wp2_with fail
        refine HFU.out.mono ?_
        rintro e w3 ⟨f, hfl, rfl, hb3⟩
        have hqr3 := HQR.out.below hb3
        have hrw3 := hqr3.cells hp
        have k3 := hrw3.c0
        rw [HV.out] at k3
        have hrow3 := hrw3.row
        rw [HV.out, ← HM.out] at hrow3
        obtain ⟨g, off, rfl, hBg, hcell⟩ := item_cells hrow3 HM.out.symm (by omega)
        obtain ⟨sf, sq, su⟩ := HQ0.out.sep p hp g hBg
        have hb03 := btrans HBL.out hb3
        have HB3 := Lib.hid hb03
        have HQR3 := Lib.hid hqr3
        have HCELL := Lib.hid (fun k x hx => (hcell w3 (Below.refl _ _) k x hx).2.2)
        have HFL := Lib.hid hfl
        have g1 : IntKind.i64.wrap ((m : Int) - 1) = (m : Int) - 1 := IntWalk.i64_in _ (by omega)
        have HBG := Lib.hid hBg
        have HRM := Lib.hid (fun i x (hx : (R p).items[i]? = some x) => remove_any hqr3.blk (q_cells most n R V hp).1 (hBg ▸ hqr3.row p hp) sq hx (by rw [← HM.out]; omega))
        have hgz := HQ0.out.lt g sf
        have HSEP := Lib.hid sf
        have l1 := hqr3.lead.2
        clear hqr3 hrw3 hrow3 hcell hb3 hb03 hfl hBg su k0 b0 he sf
        go_wp2_with fail
        clear k3
        go_loopw [7] (fun vi wr => ∃ (j : Nat), vi = .int .i64 ((j : Int) - 1) ∧ j ≤ m ∧ Hid (∀ x ∈ (R p).items.drop j, x.2.2 ≠ f) ∧ wr = w3) (fun vi _ => (1 + intOf vi).toNat)
        case atStart => exact ⟨m, rfl, Nat.le_refl _, (fun x hx => by rw [List.drop_of_length_le (by rw [← HM.out]; exact Nat.le_refl _)] at hx; cases hx), rfl⟩
        case round =>
          obtain ⟨j, rfl, hj, hnf, rfl⟩ := hrel
          by_cases hj0 : 1 ≤ j
          · obtain ⟨i, rfl⟩ : ∃ i, j = i + 1 := ⟨j - 1, by omega⟩
            obtain ⟨x, hx⟩ : ∃ x, (R p).items[i]? = some x := ⟨_, List.getElem?_eq_getElem (by rw [← HM.out]; omega)⟩
            have e2 := HCELL.out i x hx
            have hc : (((i + 1 : Nat) : Int) - 1) = (i : Int) := by omega
            rw [hc]
            have k3 := (HQR3.out.cells hp).c0
            rw [HV.out] at k3
            have j1 : (0 : Int) ≤ (i : Int) := by omega
            have j2 : (i : Int) < (m : Int) := by omega
            have HX := Lib.hid hx
            have HRX := Lib.hid (HRM.out i x hx)
            have hdrop : (R p).items.drop i = x :: (R p).items.drop (i + 1) := by
              have hi := (List.getElem?_eq_some_iff.1 hx).1
              rw [← (List.getElem?_eq_some_iff.1 hx).2, List.drop_eq_getElem_cons hi]
            have HD := Lib.hid hdrop
            obtain ⟨x1, x2, x3⟩ := x
            dsimp only at e2
            unfold Removed itV at HRX
            dsimp only at HRX
            clear hx hdrop hc hj0
            by_cases hxf : x3 = f
            · have t1 : (x3 == f) = true := beq_iff_eq.2 hxf
              go_wp2_with fail
              refine HRX.out.mono ?_
              rintro e w4 ⟨v', rfl, hq4, hr4, hf4⟩
              have hz4 := hf4.size
              have hzN := HZ2.out
              have hnN := HN2.out
              have hz3 := HB3.out.size
              have n2 := (hf4.block N2 (by omega) (by omega)).trans ((HB3.out.block N2 (by omega)).trans HR2.out)
              have n1 := (hf4.block w.heap.size (by omega) (by omega)).trans ((HB3.out.block w.heap.size (by omega)).trans HR1.out)
              obtain ⟨w5, hw5, n5, f5⟩ := fill3 n2 (.int .i64 x1) (.int .i64 x2) (.int .i64 x3)
              have q5 := (f5.block qb (Array.getElem?_eq_some_iff.1 hq4).1 (by omega)).trans hq4
              have m5 := (f5.block w.heap.size (by omega) (by omega)).trans n1
              have hr5 := hr4.below (w' := w5) (fun k hk => by cases hk; exact f5.block g (hr4.lt g rfl) (by omega))
              have hf5 : Fr (fun k => k = qb ∨ k = g) w w5 := ((((Fr.ofBelow (F := fun k => k = qb ∨ k = g) HB12.out).trans (Fr.ofBelow (F := fun _ => False) HB3.out) (fun _ h => h.elim))).trans hf4 (fun _ h => .inl h)).trans f5 (fun b hb => .inr (by omega))
              have c1 : w5.cell? ⟨qb, 1, none⟩ = some (.int .i64 n) := block_cell q5 1 (.int .i64 n) (by rw [Array.getElem?_setIfInBounds_ne (by omega)]; rfl)
              have cf := block_free q5 1
              have q6 := setCell_block w5 qb 1 _ _ (0, 0) (.int .i64 (n - 1)) q5
              have f6 : Fr (fun k => k = qb) w5 (w5.setCell ⟨qb, 1, none⟩ (.int .i64 (n - 1))) := Fr.setCell _ w5 ⟨qb, 1, none⟩ _ rfl
              obtain ⟨W6, hW6⟩ : ∃ W6, w5.setCell ⟨qb, 1, none⟩ (.int .i64 (n - 1)) = W6 := ⟨_, rfl⟩
              rw [hW6] at q6 f6
              have hz5 := f5.size
              have x6 := (f6.block N2 (by omega) (by omega)).trans n5
              have m6 := (f6.block w.heap.size (by omega) (by omega)).trans m5
              obtain ⟨W7, hW7, m7, f7⟩ := fill3 m6 (.int .i64 x1) (.int .i64 x2) (.int .i64 x3)
              have hqr6 := QAt.removed HQ0.out hp HBG.out q5 hr5 hf5 (n - 1) q6 f6
              have hz6 := f6.size
              have hqr7 := hqr6.keep (w' := W7) (fun b hb => f7.block b (hqr6.lt b hb) (by have := HQ0.out.lt b hb; omega))
              have hfr : Fr fp w W7 := ((hf5.mono (F' := fp) (fun b hb => by rcases hb with rfl | rfl; exact HQ0.out.own; exact HSEP.out)).trans f6 (fun b hb => .inl (by rw [hb]; exact HQ0.out.own))).trans f7 (fun b hb => .inr (by rw [hb]; exact Nat.le_refl _))
              have HF : Hid (Shed w qb most n R B fp (.returned (.agg #[.int .i64 x1, .int .i64 x2, .int .i64 x3])) W7) := ⟨(x1, x2, x3), _, _, rfl, hqr7, all_del R hp HX.out, hfr⟩
              have g3 : IntKind.i64.wrap (n - 1) = n - 1 := IntWalk.i64_in _ (by omega)
              have a0 := block_cell n2 0 _ rfl
              have a1 := block_cell n2 1 _ rfl
              have a2 := block_cell n2 2 _ rfl
              have b0 := block_free n2 0
              have b1 := block_free n2 1
              have b2 := block_free n2 2
              have c0 := block_cell x6 0 _ rfl
              have c1 := block_cell x6 1 _ rfl
              have c2 := block_cell x6 2 _ rfl
              have d0 := block_cell m6 0 _ rfl
              have d1 := block_cell m6 1 _ rfl
              have d2 := block_cell m6 2 _ rfl
              have u0 := block_free m6 0
              have u1 := block_free m6 1
              have u2 := block_free m6 2
              have z0 := block_cell m7 0 _ rfl
              have z1 := block_cell m7 1 _ rfl
              have z2 := block_cell m7 2 _ rfl
              clear hq4 hr4 hf4 n2 n1 n5 f5 q5 m5 hr5 hf5 q6 f6 x6 m6 m7 f7 hqr6 hqr7 hfr e2 k3 hxf hnf hz4 hzN hnN hz3 hz5 hz6
              go_wp2_with fail
              rw [Exit.noGoto_ret]
              exact bodyPost_ret (v := .agg #[.int .i64 x1, .int .i64 x2, .int .i64 x3]) (by simp [results, Tryd.results40, go_sem, z0, z1, z2]) rfl HF.out
            · have t1 : (x3 == f) = false := beq_eq_false_iff_ne.2 hxf
              have hnf' : Hid (∀ x ∈ (R p).items.drop i, x.2.2 ≠ f) := fun y hy => by
                rw [HD.out] at hy
                rcases List.mem_cons.1 hy with rfl | h
                · exact hxf
                · exact hnf.out y h
              have g2 : IntKind.i64.wrap ((i : Int) - 1) = (i : Int) - 1 := IntWalk.i64_in _ (by omega)
              clear hnf
              go_wp2_with fail
              go_roundw
              case rel => exact ⟨i, rfl, by omega, hnf', trivial⟩
              case measure => simp [intOf]; omega
          · obtain rfl : j = 0 := by omega
            obtain ⟨x, hx, hxx⟩ := HFL.out
            exact absurd hxx (hnf.out x hx)
    · obtain rfl : p = 4 := by omega
      have := all_none hno.out
      rw [this] at HN
      have := HN.out
      simp at this
      omega

/-! The queue: the next one. -/

theorem mark_items (R : Nat → Rw) (p : Nat) (f : Int) (q : Nat) : (upd R p { R p with taken := true, last := f } q).items = (R q).items := by
  unfold upd; split
  · rename_i e; subst e; rfl
  · rfl
theorem QAt.mark {w w1 : World} {qb : Nat} {most n m : Int} {R : Nat → Rw} {V : Nat → Value} {B : Nat → Option Nat} {fp : Nat → Prop} (h : QAt w qb most n R V B fp) {p : Nat} (hp : p < 4) (f : Int)
    (hq : w1.heap[qb]? = some (.cells ((((qCells most n R V).setIfInBounds (2 + p * 3 + 1) (.bool true)).setIfInBounds (2 + p * 3 + 2) (.int .i64 f)).setIfInBounds 1 (.int .i64 m)) 90 (0, 0))) (hf : Fr (fun k => k = qb) w w1) :
    QAt w1 qb most m (upd R p { R p with taken := true, last := f }) V B fp := by
  refine ⟨?_, fun q hq' => ?_, h.sep, h.own, fun b hb => Nat.lt_of_lt_of_le (h.lt b hb) hf.size⟩
  · rw [hq, q_setl most n R V hp f, q_setn]
  · rw [mark_items]
    exact (h.row q hq').below fun k hk => hf.block k ((h.row q hq').lt k hk) (h.sep q hq' k hk).2.1
theorem QAt.less {w w1 : World} {qb : Nat} {most n : Int} {R : Nat → Rw} {V : Nat → Value} {B : Nat → Option Nat} {fp : Nat → Prop} (h : QAt w qb most n R V B fp) {p : Nat} (hp : p < 4) {g : Nat} {v' : Value} {l : List (Int × Int × Int)} (hB : B p = some g)
    (hq : w1.heap[qb]? = some (.cells ((qCells most n R V).setIfInBounds (2 + p * 3) v') 90 (0, 0))) (hr : RowAt w1 67 3 v' l.length (entCells l) (some g)) (hf : Fr (fun k => k = qb ∨ k = g) w w1) :
    QAt w1 qb most n (upd R p { R p with items := l }) (upd V p v') B fp := by
  obtain ⟨sf, sq, su⟩ := h.sep p hp g hB
  refine ⟨?_, fun q hq' => ?_, h.sep, h.own, fun b hb => Nat.lt_of_lt_of_le (h.lt b hb) hf.size⟩
  · rw [hq, q_setv most n R V hp v' l]
  · by_cases e : q = p
    · subst e
      rw [upd_same, upd_same, hB]
      exact hr
    · rw [upd_other _ _ e, upd_other _ _ e]
      exact (h.row q hq').below fun k hk => hf.block k ((h.row q hq').lt k hk) (by
        rintro (hc | hc)
        · exact (h.sep q hq' k hk).2.1 hc
        · subst hc; exact e ((h.sep p hp k hB).2.2 q hq' hk))

theorem mark_all (R : Nat → Rw) (p : Nat) (f : Int) : allOf (upd R p { R p with taken := true, last := f }) = allOf R := by
  unfold allOf
  rw [mark_items, mark_items, mark_items, mark_items]

def Taken (w : World) (qb : Nat) (most n : Int) (R : Nat → Rw) (B : Nat → Option Nat) (fp : Nat → Prop) (e : Ending) (w' : World) : Prop :=
  (n = 0 ∧ e = .returned (.tuple #[itV (0, 0, 0), .bool false]) ∧ Below w.heap.size w w') ∨
  ∃ y R' V', e = .returned (.tuple #[itV y, .bool true]) ∧ QAt w' qb most (n - 1) R' V' B fp ∧ (y :: allOf R').Perm (allOf R) ∧ Fr fp w w'

set_option maxRecDepth 8000 in
set_option maxHeartbeats 4000000 in
theorem take_any {w : World} {qb : Nat} {most n : Int} {R : Nat → Rw} {V : Nat → Value} {B : Nat → Option Nat} {fp : Nat → Prop} (h : QAt w qb most n R V B fp) (hn : n = (allOf R).length) (hbig : n ≤ 1000) :
    Calls Tryd.prog 43 #[.pointer (some ⟨qb, 0, none⟩)] w (Taken w qb most n R B fp) := by
  have hqz := h.lt qb h.own
  have hb1 : Below w.heap.size w (w.alloc (.cells #[.int .i64 0, .int .i64 0, .int .i64 0] 67)) := (Below.refl _ _).alloc (Nat.le_refl _) _
  obtain ⟨W1, hW1⟩ : ∃ W1, w.alloc (.cells #[.int .i64 0, .int .i64 0, .int .i64 0] 67) = W1 := ⟨_, rfl⟩
  have r1 : W1.heap[w.heap.size]? = some (.cells #[.int .i64 0, .int .i64 0, .int .i64 0] 67 (0, 0)) := by rw [← hW1]; exact heap_alloc_new w _
  have z1 : W1.heap.size = w.heap.size + 1 := by rw [← hW1]; simp
  rw [hW1] at hb1
  have HR1 := Lib.hid r1
  have HZ1 := Lib.hid z1
  have HB1 := Lib.hid hb1
  have HQ := Lib.hid (h.below hb1)
  have HQ0 := Lib.hid h
  have HN := Lib.hid hn
  clear h r1 z1 hb1 hn
  go_enter Tryd.func43, Tryd.ntmps43
  go_wp2_with fail
  clear hW1
  go_loopw [4] (fun vi wr => ∃ (j : Nat), vi = .int .i64 ((j : Int) - 1) ∧ j ≤ 4 ∧ Hid (∀ q, j ≤ q → q < 4 → (R q).items.length = 0) ∧ Below W1.heap.size W1 wr) (fun vi _ => (1 + intOf vi).toNat)
  case atStart => exact ⟨4, rfl, Nat.le_refl _, (fun q h1 h2 => by omega), Below.refl _ _⟩
  case round =>
    obtain ⟨j, rfl, hj4, hno, hbl⟩ := hrel
    by_cases hj : 1 ≤ j
    · obtain ⟨p, rfl⟩ : ∃ p, j = p + 1 := ⟨j - 1, by omega⟩
      have hp : p < 4 := by omega
      have hc : (((p + 1 : Nat) : Int) - 1) = (p : Int) := by omega
      rw [hc]
      have hqr := HQ.out.below hbl
      have hrw := hqr.cells hp
      have k0 := hrw.c0
      have i1 : (0 : Int) ≤ (p : Int) := by omega
      have i2 : (p : Int) < 4 := by omega
      have HBL := Lib.hid hbl
      have HQR := Lib.hid hqr
      have hle := all_some (R := R) hp
      obtain ⟨m, hm⟩ : ∃ m, m = (R p).items.length := ⟨_, rfl⟩
      obtain ⟨la, lc, hv⟩ := hrw.row.form
      rw [← hm] at hv
      have HV := Lib.hid hv
      rw [hv] at k0
      have HM := Lib.hid hm
      have hm1 : m ≤ 1000 := by rw [hm]; have := HN.out; omega
      have g1 : IntKind.i64.wrap ((p : Int) - 1) = (p : Int) - 1 := IntWalk.i64_in _ (by omega)
      by_cases he : m = 0
      · have hno' : Hid (∀ q, p ≤ q → q < 4 → (R q).items.length = 0) := fun q h1 h2 => by
          rcases Nat.lt_or_ge p q with h | h
          · exact hno.out q h h2
          · rw [show q = p by omega, ← HM.out, he]
        clear hqr hrw hbl hle hm hv hno hc hj
        subst he
        go_wp2_with fail
        go_roundw
        case rel => exact ⟨p, rfl, by omega, hno', HBL.out⟩
        case measure => simp [intOf]; omega
      · have b0 : ((m : Int) == 0) = false := beq_eq_false_iff_ne.2 (by omega)
        have HNX := Lib.hid (next_any hrw (by rw [← hm]; omega) (by rw [← hm]; omega))
        clear hqr hrw hbl hle hm hv hno hc hj
        go_wp2_with fail
        refine HNX.out.mono ?_
        rintro e w3 ⟨f, hfl, rfl, hb3⟩
        have hqr3 := HQR.out.below hb3
        have hb03 := btrans HBL.out hb3
        obtain ⟨W4, hW4⟩ : ∃ W4, w3.alloc (.cells #[.int .i64 f] 3) = W4 := ⟨_, rfl⟩
        obtain ⟨N, hN⟩ : ∃ N, w3.heap.size = N := ⟨_, rfl⟩
        have hb4 : Below w3.heap.size w3 W4 := by rw [← hW4]; exact (Below.refl _ _).alloc (Nat.le_refl _) _
        have n4 : W4.heap[N]? = some (.cells #[.int .i64 f] 3 (0, 0)) := by rw [← hW4, ← hN]; exact heap_alloc_new w3 _
        have hqr4 := hqr3.below hb4
        have k4 := (hqr4.cells hp).c0
        rw [HV.out] at k4
        have HIX := Lib.hid (indexFunc_any (block_cell n4 0 _ rfl) (HV.out ▸ hqr4.row p hp) hfl (by rw [← HM.out]; omega))
        have HB4 := Lib.hid (btrans hb03 hb4)
        have HNN : Hid (W1.heap.size ≤ N) := by have := hb03.size; show _ ≤ N; omega
        have HQR4 := Lib.hid hqr4
        have HN4 := Lib.hid n4
        have nf := block_cell n4 0 _ rfl
        clear hqr3 hb3 hb03 hb4 n4 hqr4 hfl k0 b0 he HNX
        go_wp2_with fail
        refine HIX.out.mono ?_
        rintro e w5 ⟨i, x, hx, hxf, rfl, hb5⟩
        clear hW4 hN k4 nf
        have HN5 : Hid (∀ w', Below w5.heap.size w5 w' → w'.cell? ⟨N, 0, none⟩ = some (.int .i64 f)) := fun w' hb => bkeep hb (bkeep hb5 (block_cell HN4.out 0 _ rfl))
        have hqr5 := HQR4.out.below hb5
        have HQR5 := Lib.hid hqr5
        have HB5 := Lib.hid (btrans HB4.out hb5)
        have HX := Lib.hid hx
        obtain ⟨x1, x2, x3⟩ := x
        clear hx hb5 hqr5 HIX hxf
        go_wp2_with fail
        have hqd := HQR5.out
        have hbd := HB5.out
        obtain ⟨qc0, qc1, qc2⟩ := q_cells most n R V hp
        have q5 := hqd.blk
        have c1 := block_cell q5 _ _ qc1
        have f1 := block_free q5 (2 + p * 3 + 1)
        have q6 := setCell_block w5 qb (2 + p * 3 + 1) _ _ (0, 0) (.bool true) q5
        have fr6 : Fr (fun k => k = qb) w5 (w5.setCell ⟨qb, 2 + p * 3 + 1, none⟩ (.bool true)) := Fr.setCell _ w5 ⟨qb, _, none⟩ _ rfl
        obtain ⟨W6, hW6⟩ : ∃ W6, w5.setCell ⟨qb, 2 + p * 3 + 1, none⟩ (.bool true) = W6 := ⟨_, rfl⟩
        rw [hW6] at q6 fr6
        have c2 : W6.cell? ⟨qb, 2 + p * 3 + 2, none⟩ = some (.int .i64 (R p).last) := block_cell q6 _ _ (by rw [Array.getElem?_setIfInBounds_ne (by omega)]; exact qc2)
        have f2 := block_free q6 (2 + p * 3 + 2)
        have q7 := setCell_block W6 qb (2 + p * 3 + 2) _ _ (0, 0) (.int .i64 f) q6
        have fr7 : Fr (fun k => k = qb) W6 (W6.setCell ⟨qb, 2 + p * 3 + 2, none⟩ (.int .i64 f)) := Fr.setCell _ W6 ⟨qb, _, none⟩ _ rfl
        obtain ⟨W7, hW7⟩ : ∃ W7, W6.setCell ⟨qb, 2 + p * 3 + 2, none⟩ (.int .i64 f) = W7 := ⟨_, rfl⟩
        rw [hW7] at q7 fr7
        have c3 : W7.cell? ⟨qb, 1, none⟩ = some (.int .i64 n) := block_cell q7 _ _ (by rw [Array.getElem?_setIfInBounds_ne (by omega), Array.getElem?_setIfInBounds_ne (by omega)]; rfl)
        have f3 := block_free q7 1
        have q8 := setCell_block W7 qb 1 _ _ (0, 0) (.int .i64 (n - 1)) q7
        have fr8 : Fr (fun k => k = qb) W7 (W7.setCell ⟨qb, 1, none⟩ (.int .i64 (n - 1))) := Fr.setCell _ W7 ⟨qb, _, none⟩ _ rfl
        obtain ⟨W8, hW8⟩ : ∃ W8, W7.setCell ⟨qb, 1, none⟩ (.int .i64 (n - 1)) = W8 := ⟨_, rfl⟩
        rw [hW8] at q8 fr8
        have fr58 := (fr6.trans fr7 (fun _ h => .inl h)).trans fr8 (fun _ h => .inl h)
        obtain ⟨E8, hE8⟩ : ∃ E8, W8.drew = E8 := ⟨_, rfl⟩
        have he8 : Below W8.heap.size W8 E8 := by rw [← hE8]; exact (Below.refl _ _).drew
        have hq8 := (hqd.mark hp f q8 fr58).below he8
        replace fr58 := fr58.trans (Fr.ofBelow (F := fun _ => False) he8) (fun _ h => h.elim)
        have HI := Lib.hid (mark_items R p f)
        have HALL := Lib.hid (mark_all R p f)
        obtain ⟨R1, hR1⟩ : ∃ R1, R1 = upd R p { R p with taken := true, last := f } := ⟨_, rfl⟩
        rw [← hR1] at hq8 HI HALL
        have hx1 : (R1 p).items[i]? = some (x1, x2, x3) := by rw [HI.out]; exact HX.out
        have hBp : ∃ g, B p = some g := by
          rcases (HQ0.out.row p hp).2.2 with ⟨_, h0, _⟩ | ⟨g, _, _, _, _, hs, _⟩
          · rw [← HM.out] at h0
            have := (List.getElem?_eq_some_iff.1 HX.out).1
            rw [← HM.out] at this
            omega
          · exact ⟨g, hs⟩
        obtain ⟨g, hBg⟩ := hBp
        obtain ⟨sf, sq, su⟩ := HQ0.out.sep p hp g hBg
        have HRM := Lib.hid (remove_any hq8.blk (q_cells most (n - 1) R1 V hp).1 (hBg ▸ hq8.row p hp) sq hx1 (by rw [HI.out, ← HM.out]; omega))
        have HX1 := Lib.hid hx1
        have HQ8 := Lib.hid hq8
        have HBD := Lib.hid hbd
        have HF8 := Lib.hid fr58
        have HBG := Lib.hid hBg
        have HSF := Lib.hid sf
        have hgz := HQ0.out.lt g sf
        have g2 : IntKind.i64.wrap (n - 1) = n - 1 := IntWalk.i64_in _ (by have := HN.out; omega)
        unfold Removed itV at HRM
        dsimp only at HRM
        have HS6 := Lib.hid (show N ≠ qb by have := HNN.out; have := HZ1.out; omega)
        have HN6 : Hid (W6.drew.cell? ⟨N, 0, none⟩ = some (.int .i64 f)) := by
          rw [← hW6]
          exact (World.cell?_of_block (Below.heap_setCell w5 ⟨qb, 2 + p * 3 + 1, none⟩ (.bool true) N HS6.out)).trans (HN5.out w5 (Below.refl _ _))
        have HN7 : Hid (W7.drew.cell? ⟨N, 0, none⟩ = some (.int .i64 f)) := by
          rw [← hW7]
          exact (World.cell?_of_block (Below.heap_setCell W6 ⟨qb, 2 + p * 3 + 2, none⟩ (.int .i64 f) N HS6.out)).trans HN6.out
        clear hqd hbd qc0 qc1 qc2 q5 q6 q7 q8 fr6 fr7 fr8 fr58 hq8 hR1 hx1 hBg sf su HN4 HB4 HNN HQR4 he8
        refine wp_region_held_drew (S := fun w' => w'.cell? ⟨N, 0, none⟩ = some (.int .i64 f)) (by kernel_rfl) (HN5.out _ (Below.refl _ _).drew) (fun hHeld => ?_)
        refine wpAnyH_take (i := 0) (v := ?_) rfl (by kernel_rfl) (by kernel_rfl) (by kernel_rfl) (fun _ _ _ h => h) (Or.inl ⟨by kernel_rfl, ?_⟩) (by assumption) ?_
        rotate_left
        · (intro w hSw; (try dsimp only at hSw); go_simp; (try rw [if_neg (by (try simp only [ByteArray.size_append]); omega)]); (try with_reducible rfl))
        try simp only [Act.put]
        refine wpAnyH_take (i := 1) (v := ?_) rfl (by kernel_rfl) (by kernel_rfl) (by kernel_rfl) (fun _ _ _ h => h) (Or.inl ⟨by kernel_rfl, ?_⟩) (by assumption) ?_
        rotate_left
        · (intro w hSw; (try dsimp only at hSw); go_simp; (try rw [if_neg (by (try simp only [ByteArray.size_append]); omega)]); (try with_reducible rfl))
        try simp only [Act.put]
        refine wpAnyH_take (i := 2) (v := ?_) rfl (by kernel_rfl) (by kernel_rfl) (by kernel_rfl) (fun _ _ _ h => h) (Or.inl ⟨by kernel_rfl, ?_⟩) (by assumption) ?_
        rotate_left
        · (intro w hSw; (try dsimp only at hSw); go_simp; (try rw [if_neg (by (try simp only [ByteArray.size_append]); omega)]); (try with_reducible rfl))
        try simp only [Act.put]
        refine wpAnyH_take (i := 3) (v := ?_) rfl (by kernel_rfl) (by kernel_rfl) (by kernel_rfl) (fun _ _ _ h => h) (Or.inl ⟨by kernel_rfl, ?_⟩) (by assumption) ?_
        rotate_left
        · (intro w hSw; (try dsimp only at hSw); go_simp; (try rw [if_neg (by (try simp only [ByteArray.size_append]); omega)]); (try with_reducible rfl))
        try simp only [Act.put]
        refine wpAnyH_take (i := 4) (v := ?_) rfl (by kernel_rfl) (by kernel_rfl) (by kernel_rfl) (fun _ _ _ h => h) (Or.inl ⟨by kernel_rfl, ?_⟩) (by assumption) ?_
        rotate_left
        · (intro w hSw; (try dsimp only at hSw); go_simp; (try rw [if_neg (by (try simp only [ByteArray.size_append]); omega)]); (try with_reducible rfl))
        try simp only [Act.put]
        refine wpAnyH_ready (rs := [5]) (by kernel_rfl) (by simp) ?_
        refine AllReadyH.cons rfl (fun K hK => ?_) AllReadyH.nil
        go_simp
        refine hK.out _ _ (HN6.out) (fun hHeld => ?_)
        clear hK K
        try simp only [Act.put]
        refine wpAnyH_take (i := 6) (v := ?_) rfl (by kernel_rfl) (by kernel_rfl) (by kernel_rfl) (fun _ _ _ h => h) (Or.inl ⟨by kernel_rfl, ?_⟩) (by assumption) ?_
        rotate_left
        · (intro w hSw; (try dsimp only at hSw); go_simp; (try rw [if_neg (by (try simp only [ByteArray.size_append]); omega)]); (try with_reducible rfl))
        try simp only [Act.put]
        refine wpAnyH_take (i := 7) (v := ?_) rfl (by kernel_rfl) (by kernel_rfl) (by kernel_rfl) (fun _ _ _ h => h) (Or.inl ⟨by kernel_rfl, ?_⟩) (by assumption) ?_
        rotate_left
        · (intro w hSw; (try dsimp only at hSw); go_simp; (try rw [if_neg (by (try simp only [ByteArray.size_append]); omega)]); (try with_reducible rfl))
        try simp only [Act.put]
        refine wpAnyH_ready (rs := [8]) (by kernel_rfl) (by simp) ?_
        refine AllReadyH.cons rfl (fun K hK => ?_) AllReadyH.nil
        go_simp
        refine hK.out _ _ (HN7.out) (fun hHeld => ?_)
        clear hK K
        try simp only [Act.put]
        refine wpAnyH_done (by kernel_rfl) ?_ _
        try simp only [Act.put]
        clear hHeld HN5 HN6 HN7 HS6
        go_simp
        go_wp2_with fail
        refine HRM.out.mono ?_
        rintro e w9 ⟨v', rfl, hq9, hr9, hf9⟩
        have hz1 := HZ1.out
        have hzd := HBD.out.size
        have hz8 := HF8.out.size
        have n9 := (hf9.block w.heap.size (by omega) (by omega)).trans ((HF8.out.block w.heap.size (by omega) (by omega)).trans ((HBD.out.block w.heap.size (by omega)).trans HR1.out))
        obtain ⟨W10, hW10, m10, f10⟩ := fill3 n9 (.int .i64 x1) (.int .i64 x2) (.int .i64 x3)
        have hq9' := HQ8.out.less hp HBG.out hq9 hr9 hf9
        have hq10 := hq9'.keep (w' := W10) (fun b hb => f10.block b (hq9'.lt b hb) (by have := HQ0.out.lt b hb; omega))
        have hfr : Fr fp w W10 := (((((Fr.ofBelow (F := fp) HB1.out).trans (Fr.ofBelow (F := fun _ => False) HBD.out) (fun _ h => h.elim)).trans HF8.out (fun b hb => .inl (by rw [hb]; exact HQ0.out.own))).trans hf9 (fun b hb => .inl (by rcases hb with rfl | rfl; exact HQ0.out.own; exact HSF.out)))).trans f10 (fun b hb => .inr (by rw [hb]; exact Nat.le_refl _))
        have hperm := all_del R1 hp HX1.out
        rw [HALL.out] at hperm
        have HF : Hid (Taken w qb most n R B fp (.returned (.tuple #[.agg #[.int .i64 x1, .int .i64 x2, .int .i64 x3], .bool true])) W10) := .inr ⟨(x1, x2, x3), _, _, rfl, hq10, hperm, hfr⟩
        have d0 := block_cell n9 0 _ rfl
        have d1 := block_cell n9 1 _ rfl
        have d2 := block_cell n9 2 _ rfl
        have u0 := block_free n9 0
        have u1 := block_free n9 1
        have u2 := block_free n9 2
        have z0 := block_cell m10 0 _ rfl
        have z1 := block_cell m10 1 _ rfl
        have z2 := block_cell m10 2 _ rfl
        clear hq9 hr9 hf9 hz1 hzd hz8 n9 m10 f10 hq9' hq10 hfr hperm c1 c2 c3 f1 f2 f3
        go_wp2_with fail
        exact bodyPost_ret (v := .tuple #[.agg #[.int .i64 x1, .int .i64 x2, .int .i64 x3], .bool true]) (by simp [results, Tryd.results43, go_sem, z0, z1, z2]) rfl HF.out
    · obtain rfl : j = 0 := by omega
      have hall := all_none (fun q hq => hno.out q (Nat.zero_le _) hq)
      have hn0 : n = 0 := by have := HN.out; rw [hall] at this; exact this
      have r1 := (hbl.block w.heap.size (by have := HZ1.out; omega)).trans HR1.out
      obtain ⟨W6, hW6, m6, f6⟩ := fill3 r1 (.int .i64 0) (.int .i64 0) (.int .i64 0)
      have hfr : Below w.heap.size w W6 := ((Fr.ofBelow (F := fun _ => False) (btrans HB1.out hbl)).trans f6 (fun b hb => .inr (by rw [hb]; exact Nat.le_refl _))).toBelow fun _ _ h => h
      have HF : Hid (Taken w qb most n R B fp (.returned (.tuple #[.agg #[.int .i64 0, .int .i64 0, .int .i64 0], .bool false])) W6) := .inl ⟨hn0, rfl, hfr⟩
      have a0 := block_cell r1 0 _ rfl
      have a1 := block_cell r1 1 _ rfl
      have a2 := block_cell r1 2 _ rfl
      have b0 := block_free r1 0
      have b1 := block_free r1 1
      have b2 := block_free r1 2
      have z0 := block_cell m6 0 _ rfl
      have z1 := block_cell m6 1 _ rfl
      have z2 := block_cell m6 2 _ rfl
      clear hall hbl hno r1 m6 f6 hfr hn0
      go_wp2_with fail
      exact bodyPost_ret (v := .tuple #[.agg #[.int .i64 0, .int .i64 0, .int .i64 0], .bool false]) (by simp [results, Tryd.results43, go_sem, z0, z1, z2]) rfl HF.out

/-! Clamp: picked out of XM4. -/

def clamp3 (n : Int) : Int := if n < 0 then 0 else if 3 < n then 3 else n

theorem clamp_any (n : Int) (w : World) :
    Calls Tryd.prog 39 #[.int .i64 n, .int .i64 0, .int .i64 3] w fun e w' => e = .returned (.int .i64 (clamp3 n)) ∧ w' = w := by
  by_cases h1 : n < 0
  · have HE : Hid (clamp3 n = 0) := if_pos h1
    go_enter Tryd.func39, Tryd.ntmps39
    go_wp2_with fail
    go_ret
    rw [HE.out]
    exact ⟨rfl, rfl⟩
  · by_cases h2 : 3 < n
    · have HE : Hid (clamp3 n = 3) := (if_neg h1).trans (if_pos h2)
      go_enter Tryd.func39, Tryd.ntmps39
      go_wp2_with fail
      go_ret
      rw [HE.out]
      exact ⟨rfl, rfl⟩
    · have HE : Hid (clamp3 n = n) := (if_neg h1).trans (if_neg h2)
      go_enter Tryd.func39, Tryd.ntmps39
      go_wp2_with fail
      go_ret
      rw [HE.out]
      exact ⟨rfl, rfl⟩

/-! The queue: one more. -/

theorem QAt.added {w w1 : World} {qb : Nat} {most n m : Int} {R : Nat → Rw} {V : Nat → Value} {B : Nat → Option Nat} {fp : Nat → Prop} (h : QAt w qb most n R V B fp) {p : Nat} (hp : p < 4) {sb : Option Nat} {v' : Value} {l : List (Int × Int × Int)}
    (hq : w1.heap[qb]? = some (.cells (((qCells most n R V).setIfInBounds (2 + p * 3) v').setIfInBounds 1 (.int .i64 m)) 90 (0, 0))) (hr : RowAt w1 67 3 v' l.length (entCells l) sb) (hf : Fr (fun k => k = qb ∨ B p = some k) w w1)
    (hs : sb = B p ∨ ∃ g, sb = some g ∧ w.heap.size ≤ g) :
    QAt w1 qb most m (upd R p { R p with items := l }) (upd V p v') (upd B p sb) (fun b => fp b ∨ sb = some b) := by
  have hold : ∀ q, q < 4 → q ≠ p → ∀ g, B q = some g → sb ≠ some g := fun q hq' hne g hg e => by
    rcases hs with rfl | ⟨g', e', hg'⟩
    · exact hne ((h.sep p hp g e).2.2 q hq' hg)
    · rw [e'] at e; cases e
      have := (h.row q hq').lt g hg; omega
  refine ⟨?_, fun q hq' => ?_, fun q hq' g hg => ?_, .inl h.own, fun b hb => ?_⟩
  · rw [hq, q_setv most n R V hp v' l, q_setn]
  · by_cases e : q = p
    · subst e
      rw [upd_same, upd_same, upd_same]
      exact hr
    · rw [upd_other _ _ e, upd_other _ _ e, upd_other _ _ e]
      exact (h.row q hq').below fun k hk => hf.block k ((h.row q hq').lt k hk) (by
        rintro (hc | hc)
        · exact (h.sep q hq' k hk).2.1 hc
        · exact e ((h.sep p hp k hc).2.2 q hq' hk))
  · by_cases e : q = p
    · subst e
      rw [upd_same] at hg
      refine ⟨.inr hg, ?_, fun q' hq'' hg' => ?_⟩
      · rcases hs with rfl | ⟨g', e', hg'⟩
        · exact (h.sep q hp g hg).2.1
        · rw [e'] at hg; cases hg
          have := h.lt qb h.own; omega
      · rcases Nat.decEq q' q with e2 | e2
        · rw [upd_other _ _ e2] at hg'
          exact absurd hg (hold q' hq'' e2 g hg')
        · exact e2
    · rw [upd_other _ _ e] at hg
      obtain ⟨s1, s2, s3⟩ := h.sep q hq' g hg
      refine ⟨.inl s1, s2, fun q' hq'' hg' => ?_⟩
      by_cases e2 : q' = p
      · subst e2
        rw [upd_same] at hg'
        exact absurd hg' (hold q hq' e g hg)
      · rw [upd_other _ _ e2] at hg'
        exact s3 q' hq'' hg'
  · rcases hb with hb | hb
    · exact Nat.lt_of_lt_of_le (h.lt b hb) hf.size
    · exact hr.lt b hb

theorem clamp3_row (n : Int) : ∃ p : Nat, (p : Int) = clamp3 n ∧ p < 4 := by
  unfold clamp3
  by_cases h1 : n < 0
  · exact ⟨0, by rw [if_pos h1]; rfl, by omega⟩
  · rw [if_neg h1]
    by_cases h2 : 3 < n
    · exact ⟨3, by rw [if_pos h2]; rfl, by omega⟩
    · exact ⟨n.toNat, by rw [if_neg h2]; omega, by omega⟩

def Putted (w : World) (qb : Nat) (most n : Int) (R : Nat → Rw) (fp : Nat → Prop) (x : Int × Int × Int) (e : Ending) (w' : World) : Prop :=
  ∃ fp' B', (∀ b, fp' b → fp b ∨ w.heap.size ≤ b) ∧ Fr fp w w' ∧
    ((n < most ∧ ∃ R' V', e = .returned (.tuple #[itV (0, 0, 0), .bool false]) ∧ QAt w' qb most (n + 1) R' V' B' fp' ∧ (allOf R').Perm (x :: allOf R)) ∨
    (most ≤ n ∧ ∃ y R' V', e = .returned (.tuple #[itV y, .bool true]) ∧ QAt w' qb most n R' V' B' fp' ∧ (y :: allOf R').Perm (x :: allOf R)))

set_option maxRecDepth 8000 in
set_option maxHeartbeats 4000000 in
theorem put_any {w : World} {qb : Nat} {most n : Int} {R : Nat → Rw} {V : Nat → Value} {B : Nat → Option Nat} {fp : Nat → Prop} (h : QAt w qb most n R V B fp) (hn : n = (allOf R).length) (hbig : n ≤ 900) (x : Int × Int × Int) :
    Calls Tryd.prog 29 #[.pointer (some ⟨qb, 0, none⟩), itV x] w (Putted w qb most n R fp x) := by
  obtain ⟨x1, x2, x3⟩ := x
  unfold itV
  dsimp only
  have hqz := h.lt qb h.own
  have hb1 : Below w.heap.size w (w.alloc (.cells #[.int .i64 x1, .int .i64 x2, .int .i64 x3] 67)) := (Below.refl _ _).alloc (Nat.le_refl _) _
  obtain ⟨W1, hW1⟩ : ∃ W1, w.alloc (.cells #[.int .i64 x1, .int .i64 x2, .int .i64 x3] 67) = W1 := ⟨_, rfl⟩
  have r1 : W1.heap[w.heap.size]? = some (.cells #[.int .i64 x1, .int .i64 x2, .int .i64 x3] 67 (0, 0)) := by rw [← hW1]; exact heap_alloc_new w _
  have z1 : W1.heap.size = w.heap.size + 1 := by rw [← hW1]; simp
  rw [hW1] at hb1
  obtain ⟨W2, hW2⟩ : ∃ W2, W1.alloc (.cells #[.int .i64 0, .int .i64 0, .int .i64 0] 67) = W2 := ⟨_, rfl⟩
  have hb2 : Below W1.heap.size W1 W2 := by rw [← hW2]; exact (Below.refl _ _).alloc (Nat.le_refl _) _
  have r2 : W2.heap[W1.heap.size]? = some (.cells #[.int .i64 0, .int .i64 0, .int .i64 0] 67 (0, 0)) := by rw [← hW2]; exact heap_alloc_new W1 _
  have z2 : W2.heap.size = w.heap.size + 2 := by rw [← hW2]; simp; omega
  have r1' := (hb2.block _ (by omega)).trans r1
  have hb12 := btrans hb1 hb2
  obtain ⟨N2, hN2⟩ : ∃ N2, W1.heap.size = N2 := ⟨_, rfl⟩
  rw [hN2] at r2
  have HR2 := Lib.hid r2
  have HR1 := Lib.hid r1'
  have HZ2 := Lib.hid z2
  have HN2 : Hid (N2 = w.heap.size + 1) := hN2.symm.trans z1
  have HB12 := Lib.hid hb12
  have HQ := Lib.hid (h.below hb12)
  have HQ0 := Lib.hid h
  have HN := Lib.hid hn
  obtain ⟨p, hpe, hp⟩ := clamp3_row x2
  have HCL := Lib.hid (fun w => clamp_any x2 w)
  rw [← hpe] at HCL
  have i1 : (0 : Int) ≤ (p : Int) := by omega
  have i2 : (p : Int) < 4 := by omega
  have HSX : Hid (∀ w', Below W2.heap.size W2 w' → w'.cell? ⟨w.heap.size, 1, none⟩ = some (.int .i64 x2)) := fun w' hb => bkeep hb (block_cell r1' 1 _ rfl)
  clear h r1 z1 r2 r1' z2 hb1 hb2 hb12 hn hpe
  go_enter Tryd.func29, Tryd.ntmps29
  go_wp2_with fail
  clear hW1 hW2 hN2
  refine wp_region_held_drew (S := fun w' => w'.cell? ⟨w.heap.size, 1, none⟩ = some (.int .i64 x2)) (by kernel_rfl) (HSX.out _ (Below.refl _ _).drew) (fun hHeld => ?_)
  refine wpAnyH_take (i := 0) (v := ?_) rfl (by kernel_rfl) (by kernel_rfl) (by kernel_rfl) (fun _ _ _ h => h) (Or.inl ⟨by kernel_rfl, ?_⟩) (by assumption) ?_
  rotate_left
  · (intro w hSw; (try dsimp only at hSw); go_simp; (try rw [if_neg (by (try simp only [ByteArray.size_append]); omega)]); (try with_reducible rfl))
  try simp only [Act.put]
  refine wpAnyH_take (i := 1) (v := ?_) rfl (by kernel_rfl) (by kernel_rfl) (by kernel_rfl) (fun _ _ _ h => h) (Or.inl ⟨by kernel_rfl, ?_⟩) (by assumption) ?_
  rotate_left
  · (intro w hSw; (try dsimp only at hSw); go_simp; (try rw [if_neg (by (try simp only [ByteArray.size_append]); omega)]); (try with_reducible rfl))
  try simp only [Act.put]
  refine wpAnyH_take (i := 2) (v := ?_) rfl (by kernel_rfl) (by kernel_rfl) (by kernel_rfl) (fun _ _ _ h => h) (Or.inl ⟨by kernel_rfl, ?_⟩) (by assumption) ?_
  rotate_left
  · (intro w hSw; (try dsimp only at hSw); go_simp; (try rw [if_neg (by (try simp only [ByteArray.size_append]); omega)]); (try with_reducible rfl))
  try simp only [Act.put]
  refine wpAnyH_take (i := 4) (v := ?_) rfl (by kernel_rfl) (by kernel_rfl) (by kernel_rfl) (fun _ _ _ h => h) (Or.inl ⟨by kernel_rfl, ?_⟩) (by assumption) ?_
  rotate_left
  · (intro w hSw; (try dsimp only at hSw); go_simp; (try rw [if_neg (by (try simp only [ByteArray.size_append]); omega)]); (try with_reducible rfl))
  try simp only [Act.put]
  refine wpAnyH_take (i := 5) (v := ?_) rfl (by kernel_rfl) (by kernel_rfl) (by kernel_rfl) (fun _ _ _ h => h) (Or.inl ⟨by kernel_rfl, ?_⟩) (by assumption) ?_
  rotate_left
  · (intro w hSw; (try dsimp only at hSw); go_simp; (try rw [if_neg (by (try simp only [ByteArray.size_append]); omega)]); (try with_reducible rfl))
  try simp only [Act.put]
  refine wpAnyH_ready (rs := [3]) (by kernel_rfl) (by simp) ?_
  refine AllReadyH.cons rfl (fun K hK => ?_) AllReadyH.nil
  go_simp
  refine (HCL.out _).mono ?_
  rintro e wq ⟨rfl, rfl⟩
  refine hK.out _ _ (hHeld) (fun hHeld => ?_)
  clear hK K
  try simp only [Act.put]
  refine wpAnyH_take (i := 6) (v := ?_) rfl (by kernel_rfl) (by kernel_rfl) (by kernel_rfl) (fun _ _ _ h => h) (Or.inl ⟨by kernel_rfl, ?_⟩) (by assumption) ?_
  rotate_left
  · (intro w hSw; (try dsimp only at hSw); go_simp; (try rw [if_neg (by (try simp only [ByteArray.size_append]); omega)]); (try with_reducible rfl))
  try simp only [Act.put]
  refine wpAnyH_take (i := 7) (v := ?_) rfl (by kernel_rfl) (by kernel_rfl) (by kernel_rfl) (fun _ _ _ h => h) (Or.inl ⟨by kernel_rfl, ?_⟩) (by assumption) ?_
  rotate_left
  · (intro w hSw; (try dsimp only at hSw); go_simp; (try rw [if_neg (by (try simp only [ByteArray.size_append]); omega)]); (try with_reducible rfl))
  try simp only [Act.put]
  refine wpAnyH_done (by kernel_rfl) ?_ _
  try simp only [Act.put]
  clear hHeld HSX HCL
  go_simp
  obtain ⟨W3, hW3⟩ : ∃ W3, W2.drew = W3 := ⟨_, rfl⟩
  rw [hW3]
  have hb3 : Below W2.heap.size W2 W3 := by rw [← hW3]; exact (Below.refl _ _).drew
  have hq3 := HQ.out.below hb3
  have k3 := (hq3.cells hp).c0
  have HR1' := Lib.hid ((hb3.block _ (by have := HZ2.out; omega)).trans HR1.out)
  have HR2' := Lib.hid ((hb3.block _ (by have := HZ2.out; have := HN2.out; omega)).trans HR2.out)
  have HZ3 : Hid (w.heap.size + 2 ≤ W3.heap.size) := by have := hb3.size; have := HZ2.out; show _ ≤ _; omega
  have HB3 := Lib.hid (btrans HB12.out hb3)
  have HQ3 := Lib.hid hq3
  obtain ⟨m, hm⟩ : ∃ m, m = (R p).items.length := ⟨_, rfl⟩
  have hm1 : m ≤ 900 := by have := all_some (R := R) hp; have := HN.out; omega
  obtain ⟨la, lc, hv⟩ := (hq3.cells hp).row.form
  rw [← hm] at hv
  have HV := Lib.hid hv
  have HM := Lib.hid hm
  rw [hv] at k3
  have HSX : Hid (∀ w', Below W3.heap.size W3 w' → (w'.cell? ⟨qb, 2 + p * 3, none⟩ = some (.slice la m lc) ∧ w'.cell? ⟨w.heap.size, 0, none⟩ = some (.int .i64 x1) ∧ w'.cell? ⟨w.heap.size, 1, none⟩ = some (.int .i64 x2) ∧ w'.cell? ⟨w.heap.size, 2, none⟩ = some (.int .i64 x3))) := fun w' hb =>
    ⟨bkeep hb k3, bkeep hb (block_cell HR1'.out 0 _ rfl), bkeep hb (block_cell HR1'.out 1 _ rfl), bkeep hb (block_cell HR1'.out 2 _ rfl)⟩
  have hrow3 := (hq3.cells hp).row
  rw [hv, ← hm] at hrow3
  have HROW3 := Lib.hid hrow3
  clear hW3 hb3 hq3 k3 hm hv hrow3 HR1 HR2 HQ HB12 HZ2
  go_wp2_with fail
  have hbn : Below W3.heap.size W3 (W3.alloc (.cells #[.int .i64 x1, .int .i64 x2, .int .i64 x3] 67)).drew := ((Below.refl _ _).alloc (Nat.le_refl _) _).drew
  have hnn : (W3.alloc (.cells #[.int .i64 x1, .int .i64 x2, .int .i64 x3] 67)).drew.heap[W3.heap.size]? = some (.cells #[.int .i64 x1, .int .i64 x2, .int .i64 x3] 67 (0, 0)) := heap_alloc_new W3 _
  obtain ⟨la2, lc2, sb2, w4, happ, hrow4, hg4, hsb4, hsn⟩ := row_append (P := Tryd.prog) (W3.alloc (.cells #[.int .i64 x1, .int .i64 x2, .int .i64 x3] 67)).drew 85 85 67 _ 3 24 Tryd.underlying85 infoEnt rfl (HROW3.out.keep hbn) ⟨W3.heap.size, 0, none⟩ 1 1 (entCells [(x1, x2, x3)]) rfl
    (fun j u hj => by
      rw [Addr.add_lit, Nat.zero_add, cell_of_row _ _ j _ _ _ hnn]
      simpa [entCells] using hj) (entCells_one _) (by omega) (by omega) (by omega)
  refine wp_region_split_held 10 (fun w' => w'.cell? ⟨qb, 2 + p * 3, none⟩ = some (.slice la m lc) ∧ w'.cell? ⟨w.heap.size, 0, none⟩ = some (.int .i64 x1) ∧ w'.cell? ⟨w.heap.size, 1, none⟩ = some (.int .i64 x2) ∧ w'.cell? ⟨w.heap.size, 2, none⟩ = some (.int .i64 x3)) (by kernel_rfl) (by kernel_rfl) (HSX.out _ (Below.refl _ _).drew) (fun K0 hK0 hHeld => ?_)
  simp only [List.take_succ_cons, List.take_zero]
  refine wpAnyH_take (i := 0) (v := ?_) rfl (by kernel_rfl) (by kernel_rfl) (by kernel_rfl) (fun _ _ _ h => h) (Or.inl ⟨by kernel_rfl, ?_⟩) (by assumption) ?_
  rotate_left
  · (intro w hSw; (try dsimp only at hSw); go_simp; (try rw [if_neg (by (try simp only [ByteArray.size_append]); omega)]); (try with_reducible rfl))
  try simp only [Act.put]
  refine wpAnyH_take (i := 1) (v := ?_) rfl (by kernel_rfl) (by kernel_rfl) (by kernel_rfl) (fun _ _ _ h => h) (Or.inl ⟨by kernel_rfl, ?_⟩) (by assumption) ?_
  rotate_left
  · (intro w hSw; (try dsimp only at hSw); go_simp; (try rw [if_neg (by (try simp only [ByteArray.size_append]); omega)]); (try with_reducible rfl))
  try simp only [Act.put]
  refine wpAnyH_take (i := 2) (v := ?_) rfl (by kernel_rfl) (by kernel_rfl) (by kernel_rfl) (fun _ _ _ h => h) (Or.inl ⟨by kernel_rfl, ?_⟩) (by assumption) ?_
  rotate_left
  · (intro w hSw; (try dsimp only at hSw); go_simp; (try rw [if_neg (by (try simp only [ByteArray.size_append]); omega)]); (try with_reducible rfl))
  try simp only [Act.put]
  refine wpAnyH_take (i := 3) (v := ?_) rfl (by kernel_rfl) (by kernel_rfl) (by kernel_rfl) (fun _ _ _ h => h) (Or.inl ⟨by kernel_rfl, ?_⟩) (by assumption) ?_
  rotate_left
  · (intro w hSw; (try dsimp only at hSw); go_simp; (try rw [if_neg (by (try simp only [ByteArray.size_append]); omega)]); (try with_reducible rfl))
  try simp only [Act.put]
  refine wpAnyH_take (i := 4) (v := ?_) rfl (by kernel_rfl) (by kernel_rfl) (by kernel_rfl) (fun _ _ _ h => h) (Or.inl ⟨by kernel_rfl, ?_⟩) (by assumption) ?_
  rotate_left
  · (intro w hSw; (try dsimp only at hSw); go_simp; (try rw [if_neg (by (try simp only [ByteArray.size_append]); omega)]); (try with_reducible rfl))
  try simp only [Act.put]
  refine wpAnyH_take (i := 5) (v := ?_) rfl (by kernel_rfl) (by kernel_rfl) (by kernel_rfl) (fun _ _ _ h => h) (Or.inl ⟨by kernel_rfl, ?_⟩) (by assumption) ?_
  rotate_left
  · (intro w hSw; (try dsimp only at hSw); go_simp; (try rw [if_neg (by (try simp only [ByteArray.size_append]); omega)]); (try with_reducible rfl))
  try simp only [Act.put]
  refine wpAnyH_ready (rs := [6]) (by kernel_rfl) (by simp) ?_
  refine AllReadyH.cons rfl (fun K hK => ?_) AllReadyH.nil
  go_simp
  refine hK.out _ _ ((HSX.out _ hbn)) (fun hHeld => ?_)
  clear hK K
  try simp only [Act.put]
  refine wpAnyH_ready (rs := [7]) (by kernel_rfl) (by simp) ?_
  refine AllReadyH.cons rfl (fun K hK => ?_) AllReadyH.nil
  refine step_run (by rfl) (exec_append _ _ _ _ (by rfl) _ _ (by simp [Act.eval]) (by simp [Act.eval]) happ) ?_
  try simp only [Act.put]
  have f4 : Fr (fun k => B p = some k) (W3.alloc (.cells #[.int .i64 x1, .int .i64 x2, .int .i64 x3] 67)).drew w4 := Fr.ofGrown hg4 (fun k hk => hk)
  have hnq : ¬ B p = some qb := fun e => (HQ0.out.sep p hp qb e).2.1 rfl
  have hnx : ¬ B p = some w.heap.size := fun e => by have := (HQ0.out.row p hp).lt _ e; omega
  have hs3 := HSX.out _ hbn
  refine hK.out _ _ (⟨f4.cell hs3.1 hnq, f4.cell hs3.2.1 hnx, f4.cell hs3.2.2.1 hnx, f4.cell hs3.2.2.2 hnx⟩) (fun hHeld => ?_)
  clear hK K
  try simp only [Act.put]
  refine wpAnyH_take (i := 8) (v := ?_) rfl (by kernel_rfl) (by kernel_rfl) (by kernel_rfl) (fun _ _ _ h => h) (Or.inl ⟨by kernel_rfl, ?_⟩) (by assumption) ?_
  rotate_left
  · (intro w hSw; (try dsimp only at hSw); go_simp; (try rw [if_neg (by (try simp only [ByteArray.size_append]); omega)]); (try with_reducible rfl))
  try simp only [Act.put]
  refine wpAnyH_take (i := 9) (v := ?_) rfl (by kernel_rfl) (by kernel_rfl) (by kernel_rfl) (fun _ _ _ h => h) (Or.inl ⟨by kernel_rfl, ?_⟩) (by assumption) ?_
  rotate_left
  · (intro w hSw; (try dsimp only at hSw); go_simp; (try rw [if_neg (by (try simp only [ByteArray.size_append]); omega)]); (try with_reducible rfl))
  try simp only [Act.put]
  refine wpAnyH_done (by kernel_rfl) ?_ _
  simp only [Exit.then]
  refine hK0 _ _ ?_
  clear hK0 K0 hHeld
  try simp only [Act.put]
  have hz3 := HZ3.out
  have hn2 := HN2.out
  have hnN : ¬ B p = some N2 := fun e => by have := (HQ0.out.row p hp).lt _ e; omega
  have q4 := (f4.block qb (by have := hbn.size; omega) hnq).trans ((hbn.block qb (by omega)).trans HQ3.out.blk)
  have r4 := (f4.block N2 (by have := hbn.size; omega) hnN).trans ((hbn.block N2 (by omega)).trans HR2'.out)
  have hzn : W3.heap.size ≤ (W3.alloc (.cells #[.int .i64 x1, .int .i64 x2, .int .i64 x3] 67)).drew.heap.size := hbn.size
  have hsb : sb2 = B p ∨ ∃ g, sb2 = some g ∧ w.heap.size ≤ g := hsb4.imp id (fun e => ⟨_, e, by omega⟩)
  have hsq : ∀ k, sb2 = some k → k ≠ qb := fun k hk e => by
    subst e
    rcases hsb with e | ⟨g, e, hg⟩
    · exact hnq (e.symm.trans hk)
    · rw [hk] at e; cases e; omega
  have fw4 : Fr (fun k => k = qb ∨ B p = some k) w w4 := (Fr.ofBelow (F := fun k => k = qb ∨ B p = some k) (btrans HB3.out hbn)).trans f4 (fun b hb => .inl (.inr hb))
  have q5 := setCell_block w4 qb (2 + p * 3) _ _ (0, 0) (.slice la2 (m + 1) lc2) q4
  have fr5 : Fr (fun k => k = qb) w4 (w4.setCell ⟨qb, 2 + p * 3, none⟩ (.slice la2 (m + 1) lc2)) := Fr.setCell _ w4 ⟨qb, _, none⟩ _ rfl
  have c4 := block_cell q4 (2 + p * 3) _ (q_cells most n R V hp).1
  have u4 := block_free q4 (2 + p * 3)
  obtain ⟨W5, hW5⟩ : ∃ W5, w4.setCell ⟨qb, 2 + p * 3, none⟩ (.slice la2 (m + 1) lc2) = W5 := ⟨_, rfl⟩
  rw [hW5] at q5 fr5
  have c5 : W5.cell? ⟨qb, 1, none⟩ = some (.int .i64 n) := block_cell q5 1 _ (by rw [Array.getElem?_setIfInBounds_ne (by omega)]; rfl)
  have u5 := block_free q5 1
  have q6 := setCell_block W5 qb 1 _ _ (0, 0) (.int .i64 (n + 1)) q5
  have fr6 : Fr (fun k => k = qb) W5 (W5.setCell ⟨qb, 1, none⟩ (.int .i64 (n + 1))) := Fr.setCell _ W5 ⟨qb, _, none⟩ _ rfl
  obtain ⟨W6, hW6⟩ : ∃ W6, W5.setCell ⟨qb, 1, none⟩ (.int .i64 (n + 1)) = W6 := ⟨_, rfl⟩
  rw [hW6] at q6 fr6
  have c61 : W6.cell? ⟨qb, 1, none⟩ = some (.int .i64 (n + 1)) := block_cell q6 1 _ (by rw [Array.getElem?_setIfInBounds_self_of_lt]; simp [qCells])
  have c60 : W6.cell? ⟨qb, 0, none⟩ = some (.int .i64 most) := block_cell q6 0 _ (by rw [Array.getElem?_setIfInBounds_ne (by omega), Array.getElem?_setIfInBounds_ne (by omega)]; rfl)
  have fr46 := fr5.trans fr6 (fun _ h => .inl h)
  have r6 := (fr46.block N2 (by have := f4.size; have := hbn.size; omega) (by omega)).trans r4
  have hrow6 := hrow4.below (w' := W6) (fun k hk => fr46.block k (hrow4.lt k hk) (hsq k hk))
  have hlen : ((R p).items ++ [(x1, x2, x3)]).length = m + 1 := by rw [List.length_append, ← HM.out]; rfl
  have hq6 := HQ0.out.added hp (l := (R p).items ++ [(x1, x2, x3)]) q6 (by rw [hlen, entCells_append]; exact hrow6) (fw4.trans fr46 (fun b hb => .inl (.inl hb))) hsb
  have hperm := all_add R hp (x1, x2, x3)
  have ffp : Fr fp w W6 := (fw4.trans fr46 (fun b hb => .inl (.inl hb))).mono (fun b hb => by
    rcases hb with hb | hb
    · rw [hb]; exact HQ0.out.own
    · exact (HQ0.out.sep p hp b hb).1)
  have hfp' : ∀ b, (fp b ∨ sb2 = some b) → fp b ∨ w.heap.size ≤ b := fun b hb => by
    rcases hb with hb | hb
    · exact .inl hb
    · rcases hsb with e | ⟨g, e, hg⟩
      · exact .inl (HQ0.out.sep p hp b (e.symm.trans hb)).1
      · rw [hb] at e; cases e; exact .inr hg
  have HNF : Hid (∀ b, (fp b ∨ sb2 = some b) → b ≠ N2) := fun b hb e => by
    rcases hb with hb | hb
    · have := HQ0.out.lt b hb; omega
    · rcases hsb4 with e' | e'
      · exact hnN (by rw [← e', hb, e])
      · rw [hb] at e'; cases e'; omega
  have HLN : Hid (n + 1 = ((allOf (upd R p { R p with items := (R p).items ++ [(x1, x2, x3)] })).length : Int)) := by
    show n + 1 = _
    rw [hperm.length_eq, List.length_cons]; have := HN.out; omega
  have HQ6 := Lib.hid hq6
  have HPM := Lib.hid hperm
  have HFF := Lib.hid ffp
  have HFP := Lib.hid hfp'
  have HR6 := Lib.hid r6
  have g1 : IntKind.i64.wrap (n + 1) = n + 1 := IntWalk.i64_in _ (by have := HN.out; omega)
  have hwN : w.heap.size ≤ N2 := by omega
  have HWN : Hid (qb ≠ N2) := by show qb ≠ N2; omega
  clear happ hrow4 hg4 hsb4 hsn f4 hnq hnx hs3 hz3 hn2 hnN q4 r4 hzn hsb hsq fw4 q5 fr5 q6 fr6 fr46 r6 hrow6 hlen hq6 hperm ffp hfp' hbn hnn
  go_wp2_with fail
  clear hW5 hW6 c4 u4 c5 u5
  by_cases hroom : n + 1 ≤ most
  · have t1 : decide (n + 1 ≤ most) = true := decide_eq_true hroom
    go_quiet (fail)
    obtain ⟨W7, hW7⟩ : ∃ W7, W6.drewN nq = W7 := ⟨_, rfl⟩
    have hb7 : Below W6.heap.size W6 W7 := by rw [← hW7]; exact below_drewN (Below.refl _ _)
    rw [hW7]
    have r7 := (hb7.block N2 (Array.getElem?_eq_some_iff.1 HR6.out).1).trans HR6.out
    obtain ⟨W8, hW8, m8, f8⟩ := fill3 r7 (.int .i64 0) (.int .i64 0) (.int .i64 0)
    have hq8 := (HQ6.out.below hb7).keep (w' := W8) (fun b hb => f8.block b ((HQ6.out.below hb7).lt b hb) (HNF.out b hb))
    have hfr : Fr fp w W8 := (HFF.out.trans (Fr.ofBelow (F := fun _ => False) hb7) (fun _ h => h.elim)).trans f8 (fun b hb => .inr (by rw [hb]; exact hwN))
    have HF : Hid (Putted w qb most n R fp (x1, x2, x3) (.returned (.tuple #[.agg #[.int .i64 0, .int .i64 0, .int .i64 0], .bool false])) W8) := ⟨_, _, HFP.out, hfr, .inl ⟨by omega, _, _, rfl, hq8, HPM.out⟩⟩
    have d0 := block_cell r7 0 _ rfl
    have d1 := block_cell r7 1 _ rfl
    have d2 := block_cell r7 2 _ rfl
    have u0 := block_free r7 0
    have u1 := block_free r7 1
    have u2 := block_free r7 2
    have z0 := block_cell m8 0 _ rfl
    have z1 := block_cell m8 1 _ rfl
    have z2 := block_cell m8 2 _ rfl
    clear hW7 hb7 r7 m8 f8 hq8 hfr hroom c60 c61
    go_wp2_with fail
    exact bodyPost_ret (v := .tuple #[.agg #[.int .i64 0, .int .i64 0, .int .i64 0], .bool false]) (by simp [results, Tryd.results29, go_sem, z0, z1, z2]) rfl HF.out
  · have t1 : decide (n + 1 ≤ most) = false := decide_eq_false hroom
    go_quiet (fail)
    obtain ⟨W7, hW7⟩ : ∃ W7, W6.drewN nq = W7 := ⟨_, rfl⟩
    have hb7 : Below W6.heap.size W6 W7 := by rw [← hW7]; exact below_drewN (Below.refl _ _)
    rw [hW7]
    have r7 := (hb7.block N2 (Array.getElem?_eq_some_iff.1 HR6.out).1).trans HR6.out
    have HSH := Lib.hid (shed_any (HQ6.out.below hb7) HLN.out (by have := HN.out; omega) (by omega))
    have HB7 := Lib.hid hb7
    have HR7 := Lib.hid r7
    clear hW7 hb7 r7 c60 c61
    go_wp2_with fail
    refine HSH.out.mono ?_
    rintro e w8 ⟨⟨y1, y2, y3⟩, R8, V8, rfl, hq8, hp8, f8⟩
    unfold itV
    dsimp only
    have r8 := (f8.block N2 (Array.getElem?_eq_some_iff.1 HR7.out).1 (fun h => HNF.out N2 h rfl)).trans HR7.out
    obtain ⟨W9, hW9, m9, f9⟩ := fill3 r8 (.int .i64 y1) (.int .i64 y2) (.int .i64 y3)
    have hq9 := hq8.keep (w' := W9) (fun b hb => f9.block b (hq8.lt b hb) (HNF.out b hb))
    rw [Int.add_sub_cancel] at hq9
    have hfr : Fr fp w W9 := (((HFF.out.trans (Fr.ofBelow (F := fun _ => False) HB7.out) (fun _ h => h.elim)).trans f8 (fun b hb => HFP.out b hb))).trans f9 (fun b hb => .inr (by rw [hb]; exact hwN))
    have HF : Hid (Putted w qb most n R fp (x1, x2, x3) (.returned (.tuple #[.agg #[.int .i64 y1, .int .i64 y2, .int .i64 y3], .bool true])) W9) := ⟨_, _, HFP.out, hfr, .inr ⟨by omega, (y1, y2, y3), _, _, rfl, hq9, hp8.trans HPM.out⟩⟩
    have d0 := block_cell r8 0 _ rfl
    have d1 := block_cell r8 1 _ rfl
    have d2 := block_cell r8 2 _ rfl
    have u0 := block_free r8 0
    have u1 := block_free r8 1
    have u2 := block_free r8 2
    have z0 := block_cell m9 0 _ rfl
    have z1 := block_cell m9 1 _ rfl
    have z2 := block_cell m9 2 _ rfl
    clear hq8 hp8 f8 r8 m9 f9 hq9 hfr hroom
    go_wp2_with fail
    exact bodyPost_ret (v := .tuple #[.agg #[.int .i64 y1, .int .i64 y2, .int .i64 y3], .bool true]) (by simp [results, Tryd.results29, go_sem, z0, z1, z2]) rfl HF.out

/-! The queue, by the list of what waits. -/

def PutQ (w : World) (qb : Nat) (most : Int) (l : List (Int × Int × Int)) (fp : Nat → Prop) (x : Int × Int × Int) (e : Ending) (w' : World) : Prop :=
  ∃ fp', (∀ b, fp' b → fp b ∨ w.heap.size ≤ b) ∧ Fr fp w w' ∧
    (((l.length : Int) < most ∧ e = .returned (.tuple #[itV (0, 0, 0), .bool false]) ∧ QW w' qb most (x :: l) fp') ∨
    (most ≤ (l.length : Int) ∧ ∃ y l', e = .returned (.tuple #[itV y, .bool true]) ∧ (y :: l').Perm (x :: l) ∧ QW w' qb most l' fp'))
theorem put_q {w : World} {qb : Nat} {most : Int} {l : List (Int × Int × Int)} {fp : Nat → Prop} (h : QW w qb most l fp) (hbig : l.length ≤ 900) (x : Int × Int × Int) :
    Calls Tryd.prog 29 #[.pointer (some ⟨qb, 0, none⟩), itV x] w (PutQ w qb most l fp x) := by
  obtain ⟨R, V, B, h1, h2⟩ := h
  have hl := h2.length_eq
  refine (put_any h1 (by rw [hl]) (by omega) x).mono ?_
  rintro e w' ⟨fp', B', g1, g2, ⟨g3, R', V', rfl, g5, g6⟩ | ⟨g3, y, R', V', rfl, g5, g6⟩⟩
  · exact ⟨fp', g1, g2, .inl ⟨g3, rfl, R', V', B', by rw [List.length_cons]; exact g5, g6.trans (h2.cons x)⟩⟩
  · have hp := g6.trans (h2.cons x)
    have hlen : l.length = (allOf R').length := by have := hp.length_eq; simp only [List.length_cons] at this; omega
    exact ⟨fp', g1, g2, .inr ⟨g3, y, allOf R', rfl, hp, R', V', B', by rw [← hlen]; exact g5, List.Perm.refl _⟩⟩

def TakeQ (w : World) (qb : Nat) (most : Int) (l : List (Int × Int × Int)) (fp : Nat → Prop) (e : Ending) (w' : World) : Prop :=
  (l = [] ∧ e = .returned (.tuple #[itV (0, 0, 0), .bool false]) ∧ Below w.heap.size w w') ∨
  ∃ y l', e = .returned (.tuple #[itV y, .bool true]) ∧ (y :: l').Perm l ∧ QW w' qb most l' fp ∧ Fr fp w w'
theorem take_q {w : World} {qb : Nat} {most : Int} {l : List (Int × Int × Int)} {fp : Nat → Prop} (h : QW w qb most l fp) (hbig : l.length ≤ 1000) :
    Calls Tryd.prog 43 #[.pointer (some ⟨qb, 0, none⟩)] w (TakeQ w qb most l fp) := by
  obtain ⟨R, V, B, h1, h2⟩ := h
  have hl := h2.length_eq
  refine (take_any h1 (by rw [hl]) (by omega)).mono ?_
  rintro e w' (⟨g1, rfl, g3⟩ | ⟨y, R', V', rfl, g2, g3, g4⟩)
  · exact .inl ⟨List.eq_nil_of_length_eq_zero (by omega), rfl, g3⟩
  · have hp := g3.trans h2
    have hlen : (l.length : Int) - 1 = (allOf R').length := by have := hp.length_eq; simp only [List.length_cons] at this; omega
    exact .inr ⟨y, allOf R', rfl, hp, ⟨R', V', B, by rw [← hlen]; exact g2, List.Perm.refl _⟩, g4⟩

set_option maxHeartbeats 1000000 in
theorem qlen_any {w : World} {qb : Nat} {most : Int} {l : List (Int × Int × Int)} {fp : Nat → Prop} (h : QW w qb most l fp) :
    Calls Tryd.prog 32 #[.pointer (some ⟨qb, 0, none⟩)] w fun e w' => e = .returned (.int .i64 l.length) ∧ w' = w := by
  obtain ⟨R, V, B, h1, h2⟩ := h
  have c1 := h1.lead.2
  clear h1 h2
  go_enter Tryd.func32, Tryd.ntmps32
  go_wp2
  go_ret
  exact ⟨rfl, rfl⟩

def row0 : Nat → Rw := fun _ => ⟨[], false, 0⟩
def val0 : Nat → Value := fun _ => .slice none 0 0
set_option maxHeartbeats 1000000 in
theorem qnew_any (most : Int) (w : World) :
    Calls Tryd.prog 54 #[.int .i64 most] w fun e w' => e = .returned (.pointer (some ⟨w.heap.size, 0, none⟩)) ∧ QW w' w.heap.size most [] (fun b => b = w.heap.size) ∧ Below w.heap.size w w' := by
  have hb : Below w.heap.size w (w.alloc (.cells (qCells most 0 row0 val0) 90)) := (Below.refl _ _).alloc (Nat.le_refl _) _
  have hq : QW (w.alloc (.cells (qCells most 0 row0 val0) 90)) w.heap.size most [] (fun b => b = w.heap.size) :=
    ⟨row0, val0, fun _ => none, ⟨heap_alloc_new w _, fun p _ => RowAt.nil _ _ _, (fun p _ g hg => by cases hg), rfl, (fun b hb => by rw [hb]; simp)⟩, List.Perm.refl _⟩
  have HB := Lib.hid hb
  have HQ := Lib.hid hq
  clear hb hq
  unfold qCells row0 val0 at HB HQ
  dsimp only at HB HQ
  go_enter Tryd.func54, Tryd.ntmps54
  go_wp2
  go_ret
  exact ⟨rfl, HQ.out, HB.out⟩

end Go.Proofs.YtchjlkfkfcmhlaaDoor
