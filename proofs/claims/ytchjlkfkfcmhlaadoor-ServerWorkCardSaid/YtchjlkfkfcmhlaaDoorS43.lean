/- ServerEach: how often something becomes of a name (plain). -/
import Derived.Test.YtchjlkfkfcmhlaaDoorS38
namespace Go.Proofs.YtchjlkfkfcmhlaaDoor
open Go.RowKit

def nC (nm : ByteArray) (q : List Cx) : Nat := q.countP fun c => decide (c.span = nm)
def nW (nm : ByteArray) (w : List Wk) : Nat := w.countP fun x => decide (x.1.span = nm)
/-- How often 'what' became of a name. -/
def nO (what : Int) (nm : ByteArray) (all : List (Ou × Int)) : Nat := all.countP fun x => decide (x.1.what = what) && decide (x.1.c.span = nm)
/-- How often it failed as the sick do. -/
def n35 (nm : ByteArray) (all : List (Ou × Int)) : Nat := all.countP fun x => decide (x.1.what = 3) && (decide (x.1.c.span = nm) && decide (x.1.e = 35))
def one (b : Bool) : Nat := if b then 1 else 0
theorem one_le (b : Bool) : one b ≤ 1 := by cases b <;> decide
theorem nC_cons (nm : ByteArray) (c : Cx) (q : List Cx) : nC nm (c :: q) = nC nm q + one (decide (c.span = nm)) := List.countP_cons
theorem nC_perm {nm : ByteArray} {q q' : List Cx} (h : q.Perm q') : nC nm q = nC nm q' := h.countP_eq _
theorem nW_append (nm : ByteArray) (w w' : List Wk) : nW nm (w ++ w') = nW nm w + nW nm w' := List.countP_append
theorem nW_cons (nm : ByteArray) (x : Wk) (w : List Wk) : nW nm (x :: w) = nW nm w + one (decide (x.1.span = nm)) := List.countP_cons
theorem nW_nil (nm : ByteArray) : nW nm [] = 0 := rfl
theorem nO_snoc (what : Int) (nm : ByteArray) (all : List (Ou × Int)) (x : Ou × Int) : nO what nm (all ++ [x]) = nO what nm all + one (decide (x.1.what = what) && decide (x.1.c.span = nm)) := by
  unfold nO; rw [List.countP_append, List.countP_singleton]; rfl
theorem n35_snoc (nm : ByteArray) (all : List (Ou × Int)) (x : Ou × Int) : n35 nm (all ++ [x]) = n35 nm all + one (decide (x.1.what = 3) && (decide (x.1.c.span = nm) && decide (x.1.e = 35))) := by
  unfold n35; rw [List.countP_append, List.countP_singleton]; rfl

/-- What is had of a name. -/
structure EvN (nm : ByteArray) (q : List Cx) (w : List Wk) (came : Prop) (all : List (Ou × Int)) : Prop where
  le : nC nm q + nW nm w + nO 2 nm all + nO 3 nm all ≤ 1
  fresh : ¬ came → nC nm q + nW nm w + nO 2 nm all + nO 3 nm all = 0
  began : nO 1 nm all = nW nm w + nO 2 nm all + n35 nm all
structure EvI (q : List Cx) (w : List Wk) (came : List ByteArray) (all : List (Ou × Int)) : Prop where
  names : ∀ nm, EvN nm q w (nm ∈ came) all
  ahead : ∀ (i : Nat) x, all[i]? = some x → x.1.what = 2 → nO 1 x.1.c.span (all.take i) = 1
  kinds : ∀ x ∈ all, x.1.what = 1 ∨ x.1.what = 2 ∨ x.1.what = 3
theorem n35_le (nm : ByteArray) (all : List (Ou × Int)) : n35 nm all ≤ nO 3 nm all := by
  unfold n35 nO
  refine List.countP_mono_left fun x _ h => ?_
  simp only [Bool.and_eq_true, decide_eq_true_eq] at h ⊢
  exact ⟨h.1, h.2.1⟩

theorem ahead_snoc {all : List (Ou × Int)} (h : ∀ (i : Nat) x, all[i]? = some x → x.1.what = 2 → nO 1 x.1.c.span (all.take i) = 1) (x : Ou × Int) (hx : x.1.what = 2 → nO 1 x.1.c.span all = 1) :
    ∀ (i : Nat) y, (all ++ [x])[i]? = some y → y.1.what = 2 → nO 1 y.1.c.span ((all ++ [x]).take i) = 1 := by
  intro i y hi hw
  have hl := (List.getElem?_eq_some_iff.1 hi).1
  rw [List.length_append, List.length_singleton] at hl
  by_cases e : i < all.length
  · rw [List.getElem?_append_left e] at hi
    rw [List.take_append_of_le_length (by omega)]
    exact h i y hi hw
  · have e2 : i = all.length := by omega
    subst e2
    rw [List.getElem?_append_right (Nat.le_refl _), Nat.sub_self] at hi
    simp only [List.getElem?_cons_zero, Option.some.injEq] at hi
    subst hi
    rw [List.take_left]
    exact hx hw
theorem kinds_snoc {all : List (Ou × Int)} (h : ∀ x ∈ all, x.1.what = 1 ∨ x.1.what = 2 ∨ x.1.what = 3) (x : Ou × Int) (hx : x.1.what = 1 ∨ x.1.what = 2 ∨ x.1.what = 3) : ∀ y ∈ all ++ [x], y.1.what = 1 ∨ y.1.what = 2 ∨ y.1.what = 3 := by
  intro y hy
  rcases List.mem_append.1 hy with e | e
  · exact h y e
  · rw [List.mem_singleton.1 e]; exact hx

section
variable {q : List Cx} {on rest : List Wk} {came : List ByteArray} {all : List (Ou × Int)} {c : Cx} {l : Int}
/-- A work that goes on. -/
theorem EvI.goes (h : EvI q (on ++ (c, l) :: rest) came all) (l' : Int) : EvI q ((on ++ [(c, l')]) ++ rest) came all := by
  refine ⟨fun nm => ?_, h.ahead, h.kinds⟩
  have e : nW nm ((on ++ [(c, l')]) ++ rest) = nW nm (on ++ (c, l) :: rest) := by
    rw [List.append_assoc]; simp only [nW_append, nW_cons, List.cons_append, List.nil_append]
  obtain ⟨h1, h2, h3⟩ := h.names nm
  rw [← e] at h1 h2 h3
  exact ⟨h1, h2, h3⟩
/-- A work that ends. -/
theorem EvI.ends (h : EvI q (on ++ (c, l) :: rest) came all) {o : Ou} (hc : o.c = c) (ho : o.what = 2 ∨ (o.what = 3 ∧ o.e = 35)) (at_ : Int) : EvI q (on ++ rest) came (all ++ [(o, at_)]) := by
  refine ⟨fun nm => ?_, ahead_snoc h.ahead _ fun hw => ?_, kinds_snoc h.kinds _ (by rcases ho with e | ⟨e, _⟩; exact .inr (.inl e); exact .inr (.inr e))⟩
  · obtain ⟨h1, h2, h3⟩ := h.names nm
    rw [nW_append, nW_cons] at h1 h2 h3
    have g := one_le (decide (c.span = nm))
    rcases ho with e | ⟨e, e2⟩
    · refine ⟨?_, fun hn => ?_, ?_⟩ <;> (rw [nW_append]; simp only [nO_snoc, n35_snoc, hc, e, Int.reduceEq, decide_false, decide_true, Bool.false_and, Bool.true_and]; try have := h2 hn) <;> (simp only [one, Bool.false_eq_true, if_false] at *; omega)
    · refine ⟨?_, fun hn => ?_, ?_⟩ <;> (rw [nW_append]; simp only [nO_snoc, n35_snoc, hc, e, e2, Int.reduceEq, decide_false, decide_true, Bool.false_and, Bool.true_and, Bool.and_true]; try have := h2 hn) <;> (simp only [one, Bool.false_eq_true, if_false] at *; omega)
  · obtain ⟨h1, h2, h3⟩ := h.names c.span
    show nO 1 o.c.span all = 1
    rw [hc]
    rw [nW_append, nW_cons, decide_eq_true rfl] at h1 h3
    have h4 := n35_le c.span all
    simp only [one, if_true] at h1 h3
    omega
/-- One that waits begins. -/
theorem EvI.begins {q' : List Cx} {w : List Wk} (h : EvI q w came all) (hp : (c :: q').Perm q) (l : Int) {o : Ou} (hc : o.c = c) (ho : o.what = 1) (at_ : Int) : EvI q' (w ++ [(c, l)]) came (all ++ [(o, at_)]) := by
  refine ⟨fun nm => ?_, ahead_snoc h.ahead _ (fun hw => by rw [show (o, at_).1.what = o.what from rfl, ho] at hw; cases hw), kinds_snoc h.kinds _ (.inl ho)⟩
  obtain ⟨h1, h2, h3⟩ := h.names nm
  have e := nC_perm (nm := nm) hp
  rw [nC_cons] at e
  rw [← e] at h1 h2
  refine ⟨?_, fun hn => ?_, ?_⟩ <;> (rw [nW_append, nW_cons, nW_nil]; simp only [nO_snoc, n35_snoc, hc, ho, Int.reduceEq, decide_false, decide_true, Bool.false_and, Bool.true_and]; try have := h2 hn) <;> (simp only [one, Bool.false_eq_true, if_false] at *; omega)
/-- One that waits fails. -/
theorem EvI.fails {q' : List Cx} {w : List Wk} (h : EvI q w came all) (hp : (c :: q').Perm q) {o : Ou} (hc : o.c = c) (ho : o.what = 3 ∧ o.e ≠ 35) (at_ : Int) : EvI q' w came (all ++ [(o, at_)]) := by
  refine ⟨fun nm => ?_, ahead_snoc h.ahead _ (fun hw => by rw [show (o, at_).1.what = o.what from rfl, ho.1] at hw; cases hw), kinds_snoc h.kinds _ (.inr (.inr ho.1))⟩
  obtain ⟨h1, h2, h3⟩ := h.names nm
  have e := nC_perm (nm := nm) hp
  rw [nC_cons] at e
  rw [← e] at h1 h2
  refine ⟨?_, fun hn => ?_, ?_⟩ <;> (simp only [nO_snoc, n35_snoc, hc, ho.1, decide_eq_false ho.2, Int.reduceEq, decide_false, decide_true, Bool.false_and, Bool.true_and, Bool.and_false]; try have := h2 hn) <;> (simp only [one, Bool.false_eq_true, if_false] at *; omega)
/-- One comes. -/
theorem EvI.comes {w : List Wk} (h : EvI q w came all) (hn : c.span ∉ came) : EvI (c :: q) w (came ++ [c.span]) all := by
  refine ⟨fun nm => ?_, h.ahead, h.kinds⟩
  obtain ⟨h1, h2, h3⟩ := h.names nm
  by_cases e : c.span = nm
  · have h4 := h2 (e ▸ hn)
    refine ⟨?_, fun hm => absurd (List.mem_append_right _ (by rw [e]; exact List.mem_cons_self)) hm, h3⟩
    rw [nC_cons]
    have := one_le (decide (c.span = nm))
    omega
  · refine ⟨?_, fun hm => ?_, h3⟩
    · rw [nC_cons, decide_eq_false e]; exact h1
    · rw [nC_cons, decide_eq_false e]; exact h2 fun hk => hm (List.mem_append_left _ hk)
theorem EvI.perm {q' : List Cx} {w : List Wk} (h : EvI q w came all) (hp : q'.Perm q) : EvI q' w came all :=
  ⟨fun nm => by obtain ⟨h1, h2, h3⟩ := h.names nm; rw [← nC_perm (nm := nm) hp] at h1 h2; exact ⟨h1, h2, h3⟩, h.ahead, h.kinds⟩
end

end Go.Proofs.YtchjlkfkfcmhlaaDoor
