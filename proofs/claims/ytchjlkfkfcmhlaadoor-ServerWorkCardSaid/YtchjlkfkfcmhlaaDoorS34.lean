/- A server: a first attempt, alone (plain). -/
import Derived.Test.YtchjlkfkfcmhlaaDoorS33
namespace Go.Proofs.YtchjlkfkfcmhlaaDoor
open Go.RowKit

theorem snoc_inj {α : Type} {a b : List α} {x y : α} (h : a ++ [x] = b ++ [y]) : a = b ∧ x = y := by
  have := List.append_inj' h rfl
  exact ⟨this.1, by simpa using this.2⟩
theorem snoc_one {α : Type} {a : List α} {x y : α} (h : a ++ [x] = [y]) : a = [] ∧ x = y := snoc_inj (b := []) h
theorem EndR.nil {hz now sick n0 : Int} {E0 E : List (ByteArray × Int)} {on : List Wk} {outs : List Ou} {n : Int} (h : EndR hz now sick n0 E0 [] on outs n E) : on = [] ∧ outs = [] ∧ n = n0 ∧ E = E0 := by
  generalize hw : ([] : List Wk) = ws at h
  cases h with
  | start => exact ⟨rfl, rfl, rfl, rfl⟩
  | _ => simp at hw
/-- How one work's tick goes. -/
inductive EndO (hz now sick n0 : Int) (E0 : List (ByteArray × Int)) (c : Cx) (left : Int) : List Wk → List Ou → Int → List (ByteArray × Int) → Prop
  | on : 1 < left → EndO hz now sick n0 E0 c left [(c, left - 1)] [] n0 E0
  | sick : left ≤ 1 → each sick (n0 + 1) = true → EndO hz now sick n0 E0 c left [] [⟨3, c, false, 35⟩] (n0 + 1) E0
  | none : left ≤ 1 → each sick (n0 + 1) = false → (c.shadow = true ∨ ∃ p ∈ E0, p.1 = keyOf c.call) → EndO hz now sick n0 E0 c left [] [⟨2, c, false, 0⟩] (n0 + 1) E0
  | idem : left ≤ 1 → each sick (n0 + 1) = false → c.shadow = false → c.idem = true → EndO hz now sick n0 E0 c left [] [⟨2, c, true, 0⟩] (n0 + 1) E0
  | eff : left ≤ 1 → each sick (n0 + 1) = false → c.shadow = false → c.idem = false → (∀ p ∈ E0, p.1 = keyOf c.call → hz ≤ now - p.2) → EndO hz now sick n0 E0 c left [] [⟨2, c, true, 0⟩] (n0 + 1) ((keyOf c.call, now) :: E0)
theorem EndR.snoc {hz now sick n0 : Int} {E0 E : List (ByteArray × Int)} {ws on : List Wk} {c : Cx} {left : Int} {outs : List Ou} {n : Int} (h : EndR hz now sick n0 E0 (ws ++ [(c, left)]) on outs n E) :
    ∃ on1 outs1 n1 E1 on2 outs2, EndR hz now sick n0 E0 ws on1 outs1 n1 E1 ∧ EndO hz now sick n1 E1 c left on2 outs2 n E ∧ on = on1 ++ on2 ∧ outs = outs1 ++ outs2 := by
  generalize hw : ws ++ [(c, left)] = ws' at h
  cases h with
  | start => simp at hw
  | on h1 h2 => obtain ⟨rfl, e⟩ := snoc_inj hw; cases e; exact ⟨_, _, _, _, _, _, h1, .on h2, rfl, (List.append_nil _).symm⟩
  | sick h1 h2 h3 => obtain ⟨rfl, e⟩ := snoc_inj hw; cases e; exact ⟨_, _, _, _, _, _, h1, .sick h2 h3, (List.append_nil _).symm, rfl⟩
  | none h1 h2 h3 h4 => obtain ⟨rfl, e⟩ := snoc_inj hw; cases e; exact ⟨_, _, _, _, _, _, h1, .none h2 h3 h4, (List.append_nil _).symm, rfl⟩
  | idem h1 h2 h3 h4 h5 => obtain ⟨rfl, e⟩ := snoc_inj hw; cases e; exact ⟨_, _, _, _, _, _, h1, .idem h2 h3 h4 h5, (List.append_nil _).symm, rfl⟩
  | eff h1 h2 h3 h4 h5 h6 => obtain ⟨rfl, e⟩ := snoc_inj hw; cases e; exact ⟨_, _, _, _, _, _, h1, .eff h2 h3 h4 h5 h6, (List.append_nil _).symm, rfl⟩
theorem EndR.one {hz now sick n0 : Int} {E0 E : List (ByteArray × Int)} {on : List Wk} {c : Cx} {left : Int} {outs : List Ou} {n : Int} (h : EndR hz now sick n0 E0 [(c, left)] on outs n E) : EndO hz now sick n0 E0 c left on outs n E := by
  obtain ⟨on1, outs1, n1, E1, on2, outs2, h1, h2, rfl, rfl⟩ := EndR.snoc (ws := []) h
  obtain ⟨rfl, rfl, rfl, rfl⟩ := h1.nil
  exact h2

theorem BegR.none {slots work now : Int} {w0 w : List Wk} {q : List Cx} {o : List Ou} (h : BegR slots work now [] w0 q w o) : q = [] ∧ w = w0 ∧ o = [] := by
  induction h with
  | start => exact ⟨rfl, rfl, rfl⟩
  | late _ _ hp _ ih => obtain ⟨e, _, _⟩ := ih; rw [e] at hp; exact absurd hp.length_eq (by simp)
  | take _ _ hp _ ih => obtain ⟨e, _, _⟩ := ih; rw [e] at hp; exact absurd hp.length_eq (by simp)
theorem BegR.one {slots work now : Int} {w : List Wk} {q : List Cx} {o : List Ou} {c : Cx} (h : BegR slots work now [c] [] q w o) (hl : now < c.dl) : (q = [c] ∧ w = [] ∧ o = []) ∨ (q = [] ∧ w = [(c, work)] ∧ o = [⟨1, c, false, 0⟩]) := by
  induction h with
  | start => exact .inl ⟨rfl, rfl, rfl⟩
  | late _ _ hp hd ih =>
    rcases ih with ⟨rfl, _, _⟩ | ⟨rfl, _, _⟩
    · have := List.perm_singleton.1 hp
      injection this with e1 e2
      subst e1; omega
    · exact absurd hp.length_eq (by simp)
  | take _ _ hp hd ih =>
    rcases ih with ⟨rfl, rfl, rfl⟩ | ⟨rfl, _, _⟩
    · have := List.perm_singleton.1 hp
      injection this with e1 e2
      subst e1; subst e2
      exact .inr ⟨rfl, rfl, rfl⟩
    · exact absurd hp.length_eq (by simp)

theorem each_zero (n : Int) : each 0 n = false := rfl

def lifeS : Sv := ⟨1, 2, 1, 1, 0, 0⟩
def lifeC : Cx := ⟨7, ⟨#[55]⟩, 1, false, false, 50, 0, 1, 0⟩
theorem lifeS_ok : lifeS.Ok := ⟨by decide, by decide, by decide, by decide⟩
def life1 : SS := { SS.new with waits := [lifeC], came := [lifeC.span] }
theorem life_come {t' : SS} {outs : List Ou} {fresh : Bool} (h : ComeR lifeS lifeC SS.new t' outs fresh) : t' = life1 ∧ outs = [] ∧ fresh = true := by
  rcases h with ⟨h, _⟩ | ⟨_, _, rfl, q, rfl, ⟨_, h, rfl⟩ | ⟨h, _⟩⟩
  · rcases h with h | h
    · cases h
    · cases h
  · rw [List.perm_singleton.1 h]; exact ⟨rfl, rfl, rfl⟩
  · exact absurd h (by decide)
def life2 : SS := { life1 with waits := [], works := [(lifeC, 2)] }
theorem life_step1 {t' : SS} {outs : List Ou} (h : StepR 10 lifeS 5 false 0 1 life1 t' outs) : t' = life2 ∧ outs = [⟨1, lifeC, false, 0⟩] := by
  rcases h with ⟨h | h, _⟩ | ⟨_, _, on, o1, n, E, q, w, o2, h1, h2, h3, rfl, rfl⟩
  · cases h
  · cases h
  · obtain ⟨rfl, rfl, rfl, rfl⟩ := EndR.nil h1
    rcases BegR.one h2 (by decide) with ⟨rfl, rfl, rfl⟩ | ⟨rfl, rfl, rfl⟩
    · rcases h3 with h | h
      · exact absurd h (by decide)
      · cases h
    · exact ⟨rfl, rfl⟩
def life3 : SS := { life2 with works := [(lifeC, 1)] }
theorem life_step2 {t' : SS} {outs : List Ou} (h : StepR 10 lifeS 6 false 0 1 life2 t' outs) : t' = life3 ∧ outs = [] := by
  rcases h with ⟨h | h, _⟩ | ⟨_, _, on, o1, n, E, q, w, o2, h1, h2, h3, rfl, rfl⟩
  · cases h
  · cases h
  · cases EndR.one h1 with
    | on h => obtain ⟨rfl, rfl, rfl⟩ := BegR.none h2; exact ⟨rfl, rfl⟩
    | sick h _ => exact absurd h (by decide)
    | none h _ _ => exact absurd h (by decide)
    | idem h _ _ _ => exact absurd h (by decide)
    | eff h _ _ _ _ => exact absurd h (by decide)
theorem life_step3 {t' : SS} {outs : List Ou} (h : StepR 10 lifeS 7 false 0 1 life3 t' outs) : outs = [⟨2, lifeC, true, 0⟩] := by
  rcases h with ⟨h | h, _⟩ | ⟨_, _, on, o1, n, E, q, w, o2, h1, h2, h3, rfl, rfl⟩
  · cases h
  · cases h
  · cases EndR.one h1 with
    | on h => exact absurd h (by decide)
    | sick _ h => rw [each_zero] at h; cases h
    | none _ _ h =>
      rcases h with h | ⟨p, hp, _⟩
      · cases h
      · cases hp
    | idem _ _ _ h => cases h
    | eff _ _ _ _ _ => obtain ⟨rfl, rfl, rfl⟩ := BegR.none h2; rfl

end Go.Proofs.YtchjlkfkfcmhlaaDoor
