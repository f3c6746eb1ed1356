/- ServerDrains: what is left to do grows less (plain). -/
import Derived.Test.YtchjlkfkfcmhlaaDoorS38
namespace Go.Proofs.YtchjlkfkfcmhlaaDoor
open Go.RowKit

def SumL : List Wk → Int
  | [] => 0
  | x :: ws => x.2 + SumL ws
theorem SumL_snoc (ws : List Wk) (c : Cx) (l : Int) : SumL (ws ++ [(c, l)]) = SumL ws + l := by
  induction ws with
  | nil => show l + 0 = 0 + l; omega
  | cons x ws ih => show x.2 + SumL (ws ++ [(c, l)]) = x.2 + SumL ws + l; rw [ih]; omega
theorem SumL_pos {ws : List Wk} (h : ∀ x ∈ ws, 1 ≤ x.2) : (ws.length : Int) ≤ SumL ws := by
  induction ws with
  | nil => exact Int.le_refl _
  | cons x ws ih =>
    have h1 := ih fun y hy => h y (List.mem_cons_of_mem _ hy)
    have h2 := h x List.mem_cons_self
    show ((ws.length + 1 : Nat) : Int) ≤ x.2 + SumL ws
    omega
theorem SumL_le {ws : List Wk} {B : Int} (h : ∀ x ∈ ws, x.2 ≤ B) : SumL ws ≤ B * ws.length := by
  induction ws with
  | nil => show (0 : Int) ≤ B * ((0 : Nat) : Int); simp
  | cons x ws ih =>
    have h1 := ih fun y hy => h y (List.mem_cons_of_mem _ hy)
    have h2 := h x List.mem_cons_self
    show x.2 + SumL ws ≤ B * ((ws.length + 1 : Nat) : Int)
    rw [Int.natCast_add, Int.mul_add]
    have : B * ((1 : Nat) : Int) = B := by simp
    omega
theorem EndR.pot {hz now sick n0 : Int} {E0 E : List (ByteArray × Int)} {ws on : List Wk} {outs : List Ou} {n : Int} (h : EndR hz now sick n0 E0 ws on outs n E) (hp : ∀ x ∈ ws, 1 ≤ x.2) : SumL on + ws.length ≤ SumL ws := by
  induction h with
  | start => exact Int.le_refl _
  | on _ _ ih =>
    have h1 := ih fun x hx => hp x (List.mem_append_left _ hx)
    rw [SumL_snoc, SumL_snoc, List.length_append, List.length_singleton]; omega
  | sick _ _ _ ih | none _ _ _ _ ih | idem _ _ _ _ _ ih | eff _ _ _ _ _ _ ih =>
    have h1 := ih fun x hx => hp x (List.mem_append_left _ hx)
    have h2 := hp _ (List.mem_append_right _ (List.mem_singleton.2 rfl))
    rw [SumL_snoc, List.length_append, List.length_singleton]
    dsimp only at h2
    omega
theorem BegR.pot {slots work now : Int} {q0 q : List Cx} {w0 w : List Wk} {o : List Ou} (h : BegR slots work now q0 w0 q w o) (hw : 0 ≤ work) : SumL w + work * q.length ≤ SumL w0 + work * q0.length := by
  induction h with
  | start => exact Int.le_refl _
  | late _ _ hp _ ih =>
    have h1 := hp.length_eq
    rw [List.length_cons] at h1
    rw [← h1, Int.natCast_add, Int.mul_add] at ih
    have : work * ((1 : Nat) : Int) = work := by simp
    omega
  | take _ _ hp _ ih =>
    have h1 := hp.length_eq
    rw [List.length_cons] at h1
    rw [← h1, Int.natCast_add, Int.mul_add] at ih
    rw [SumL_snoc]
    have : work * ((1 : Nat) : Int) = work := by simp
    omega
theorem BegR.lb {slots work now B : Int} {q0 q : List Cx} {w0 w : List Wk} {o : List Ou} (h : BegR slots work now q0 w0 q w o) (hw : 1 ≤ work ∧ work ≤ B) (h0 : ∀ x ∈ w0, 1 ≤ x.2 ∧ x.2 ≤ B) : ∀ x ∈ w, 1 ≤ x.2 ∧ x.2 ≤ B := by
  induction h with
  | start => exact h0
  | late _ _ _ _ ih => exact ih
  | take _ _ _ _ ih => intro x hx; rcases List.mem_append.1 hx with e | e; exact ih x e; rw [List.mem_singleton.1 e]; exact hw

def SS.Lb (t : SS) (B : Int) : Prop := ∀ x ∈ t.works, 1 ≤ x.2 ∧ x.2 ≤ B
theorem StepR.lb {hz now sick lazy B : Int} {s : Sv} {p : Bool} {t t' : SS} {outs : List Ou} (h : StepR hz s now p sick lazy t t' outs) (hw : 1 ≤ s.work * lazy ∧ s.work * lazy ≤ B) (ht : t.Lb B) : t'.Lb B := by
  rcases h with ⟨_, rfl, _⟩ | ⟨_, _, on, o1, n, E, q, w, o2, h1, h2, _, rfl, _⟩
  · exact ht
  · refine h2.lb hw fun x hx => ?_
    obtain ⟨g1, y, g2, g3, g4⟩ := h1.left x hx
    have := ht y g2
    omega
theorem ActR.lb {hz : Int} {s : Sv} {faults : Bool} {now : Int} {t t' : SS} {outs : List Ou} (h : ActR hz s faults now t t' outs) (hs : s.Ok) (ht : t.Lb (2 * s.work)) : t'.Lb (2 * s.work) := by
  have hw := hs.work
  cases h with
  | come hc =>
    rcases hc with ⟨_, rfl, _⟩ | ⟨_, _, _, q, rfl, _⟩
    · exact ht
    · exact ht
  | crash _ => intro x hx; cases hx
  | idle _ => exact ht
  | up => unfold SS.Lb SS.upAt; split <;> exact ht
  | @step p sick lazy t t' outs hl _ hstep =>
    refine hstep.lb ?_ ht
    rcases (show lazy = 1 ∨ lazy = 2 by omega) with e | e <;> rw [e] <;> omega
theorem RunR.lb {hz : Int} {s : Sv} {faults : Bool} {t : SS} {now : Int} {all : List (Ou × Int)} (h : RunR hz s faults SS.new t now all) (hs : s.Ok) : t.Lb (2 * s.work) := by
  induction h with
  | start => intro x hx; cases hx
  | act _ _ ha ih => exact ha.lb hs ih

def SS.pot (t : SS) (work : Int) : Int := SumL t.works + work * t.waits.length
/-- While it drains: i steps are done. -/
structure DrI (s : Sv) (P : Int) (i : Nat) (t : SS) : Prop where
  up : t.down = false
  lb : t.Lb (2 * s.work)
  good : 0 < i → t.works ≠ [] ∨ t.waits = []
  pot : t.pot s.work ≤ P
  less : 0 < i → (t.works = [] ∧ t.waits = []) ∨ t.pot s.work + i ≤ P + 1
theorem slots_pos {s : Sv} {again : Bool} {up now : Int} (hs : s.Ok) (hu : up ≤ now) : 1 ≤ slotsOf s false again up now := by
  have h1 := hs.slots
  have h2 := hs.warm
  unfold slotsOf
  rw [if_neg (by decide)]
  split
  · exact h1.1
  · have := Int.ediv_nonneg (show 0 ≤ now - up by omega) h2.1
    omega
theorem DrI.step {s : Sv} {P : Int} {i : Nat} {t t' : SS} {hz now : Int} {outs : List Ou} (hs : s.Ok) (h : DrI s P i t) (hu : t.up ≤ now) (hst : StepR hz s now false 0 1 t t' outs) : DrI s P (i + 1) t' := by
  have hw := hs.work
  have hlb := hst.lb (B := 2 * s.work) (by rw [Int.mul_one]; omega) h.lb
  rcases hst with ⟨h1 | h1, _⟩ | ⟨_, _, on, o1, n, E, q, w, o2, h1, h2, h3, rfl, _⟩
  · rw [h.up] at h1; cases h1
  · cases h1
  · have hp1 := h1.pot fun x hx => (h.lb x hx).1
    have hp2 := h2.pot (by rw [Int.mul_one]; omega)
    rw [Int.mul_one] at hp2
    have hsl := slots_pos (again := t.again) (up := t.up) (now := now) hs hu
    rw [h.up] at h3
    have hgood : w ≠ [] ∨ q = [] := by
      rcases h3 with h3 | h3
      · refine .inl fun e => ?_
        rw [e] at h3
        simp at h3
        omega
      · exact .inr h3
    have hpot : (SumL w + s.work * q.length) + t.works.length ≤ t.pot s.work := by unfold SS.pot; omega
    refine ⟨h.up, hlb, fun _ => hgood, ?_, fun _ => ?_⟩
    · show SumL w + s.work * q.length ≤ P
      have := h.pot; omega
    · by_cases hi : 0 < i
      · rcases h.less hi with ⟨e1, e2⟩ | h4
        · left
          rw [e1] at h1
          rw [e2] at h2
          obtain ⟨e3, -⟩ := h1.nil
          rw [e3] at h2
          obtain ⟨e4, e5, -⟩ := h2.none
          exact ⟨e5, e4⟩
        · by_cases hwk : t.works = []
          · rcases h.good hi with e | e
            · exact absurd hwk e
            · left
              rw [hwk] at h1
              rw [e] at h2
              obtain ⟨e3, -⟩ := h1.nil
              rw [e3] at h2
              obtain ⟨e4, e5, -⟩ := h2.none
              exact ⟨e5, e4⟩
          · right
            have : 0 < t.works.length := List.length_pos_iff.2 hwk
            show SumL w + s.work * q.length + ((i + 1 : Nat) : Int) ≤ P + 1
            omega
      · right
        have := h.pot
        show SumL w + s.work * q.length + ((i + 1 : Nat) : Int) ≤ P + 1
        omega
/-- It has nothing left to do. -/
theorem DrI.done {s : Sv} {P : Int} {i : Nat} {t : SS} (hs : s.Ok) (h : DrI s P i t) (hi : P + 2 ≤ i) (hP : 0 ≤ P) : t.works = [] ∧ t.waits = [] := by
  have hw := hs.work
  rcases h.less (by omega) with e | e
  · exact e
  · have h1 := SumL_pos (ws := t.works) fun x hx => (h.lb x hx).1
    have h2 : 0 ≤ s.work * (t.waits.length : Int) := Int.mul_nonneg (by omega) (by omega)
    unfold SS.pot at e
    omega
theorem DrI.start {s : Sv} {t : SS} (hs : s.Ok) (hd : t.down = false) (hl : t.Lb (2 * s.work)) : DrI s (2 * s.work * (t.waits.length + t.works.length : Nat)) 0 t := by
  have hw := hs.work
  refine ⟨hd, hl, fun h => absurd h (by decide), ?_, fun h => absurd h (by decide)⟩
  have h1 := SumL_le (ws := t.works) fun x hx => (hl x hx).2
  unfold SS.pot
  rw [Int.natCast_add, Int.mul_add]
  have h2 : s.work * (t.waits.length : Int) ≤ 2 * s.work * (t.waits.length : Int) := Int.mul_le_mul_of_nonneg_right (by omega) (by omega)
  omega

end Go.Proofs.YtchjlkfkfcmhlaaDoor
