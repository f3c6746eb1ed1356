/- Rows of records, of any kind: f tells an element's cells, s how many. -/
import Derived.Test.YtedoalpijbggiaaDoorRow
namespace Go.Proofs.YtedoalpijbggiaaDoor
open Go.RowKit

theorem flat_len {α : Type} (f : α → List Value) (s : Nat) (hf : ∀ a, (f a).length = s) (l : List α) : (l.flatMap f).length = l.length * s := by
  induction l with
  | nil => simp
  | cons a l ih => rw [List.flatMap_cons, List.length_append, ih, hf, List.length_cons, Nat.succ_mul]; omega
theorem flat_one {α : Type} (f : α → List Value) (h1 : ∀ a, ∀ u ∈ f a, u.oneCell' = true) (l : List α) : ∀ u ∈ l.flatMap f, u.oneCell' = true := by
  intro u hu
  obtain ⟨a, _, ha⟩ := List.mem_flatMap.1 hu
  exact h1 a u ha
theorem flat_at {α : Type} (f : α → List Value) (s : Nat) (hf : ∀ a, (f a).length = s) : ∀ (l : List α) (i : Nat) (a : α), l[i]? = some a → ∀ j, j < s → (l.flatMap f)[i * s + j]? = (f a)[j]?
  | [], i, a, h, _, _ => by simp at h
  | b :: l, i, a, h, j, hj => by
    cases i with
    | zero =>
      simp only [List.getElem?_cons_zero, Option.some.injEq] at h
      subst h
      rw [List.flatMap_cons, Nat.zero_mul, Nat.zero_add, List.getElem?_append_left (by rw [hf]; exact hj)]
    | succ i =>
      rw [List.flatMap_cons, List.getElem?_append_right (by rw [hf, Nat.succ_mul]; omega), hf, show (i + 1) * s + j - s = i * s + j by rw [Nat.succ_mul]; omega]
      exact flat_at f s hf l i a (by simpa using h) j hj

/-- A kind of record. -/
structure Kd (P : Program) (α : Type) where
  f : α → List Value
  s : Nat
  bytes : Nat
  T : TypeId
  T' : TypeId
  z : Value
  len : ∀ a, (f a).length = s
  one : ∀ a, ∀ u ∈ f a, u.oneCell' = true
  zs : z.cells.size = s
  small : bytes ≤ 100000
  under : P.underlying T' = some (.slice T)
  info : (P.info? T).map (fun i => (i.zero, i.size, i.bytes)) = some (some z, s, bytes)

variable {P : Program} {α : Type}
def Kd.At (D : Kd P α) (w : World) (v : Value) (l : List α) (sb : Option Nat) : Prop := RowAt w D.T D.s v l.length (l.flatMap D.f) sb
theorem Kd.nil (D : Kd P α) (w : World) : D.At w (.slice none 0 0) [] none := RowAt.nil w D.T D.s
theorem Kd.At.keep {D : Kd P α} {w w' : World} {v : Value} {l : List α} {sb : Option Nat} (h : D.At w v l sb) (hb : ∀ g, sb = some g → w'.heap[g]? = w.heap[g]?) : D.At w' v l sb := RowAt.below h hb
theorem Kd.At.below {D : Kd P α} {w w' : World} {v : Value} {l : List α} {sb : Option Nat} (h : D.At w v l sb) (hb : Below w.heap.size w w') : D.At w' v l sb := RowAt.keep h hb
theorem Kd.At.lt {D : Kd P α} {w : World} {v : Value} {l : List α} {sb : Option Nat} (h : D.At w v l sb) : ∀ g, sb = some g → g < w.heap.size := RowAt.lt h
theorem Kd.At.form {D : Kd P α} {w : World} {v : Value} {l : List α} {sb : Option Nat} (h : D.At w v l sb) : ∃ la lc, v = .slice la l.length lc := RowAt.form h

/-- The cells of its elements. -/
theorem Kd.At.cells {D : Kd P α} {w : World} {v : Value} {l : List α} {sb : Option Nat} (h : D.At w v l sb) (hp : 0 < l.length) :
    ∃ g off lc, v = .slice (some ⟨g, off, none⟩) l.length lc ∧ sb = some g ∧ ∀ W : World, W.heap[g]? = w.heap[g]? → ∀ (k : Nat) (a : α), l[k]? = some a → ∀ j u, (D.f a)[j]? = some u → W.cell? ⟨g, off + (k * D.s + j), none⟩ = some u := by
  rcases h.2.2 with ⟨_, h0, _⟩ | ⟨g, off, cap, cur, hv, hsg, hh, _, _, _, ht⟩
  · omega
  · refine ⟨g, off, cap, hv, hsg, fun W hW k a hk j u hj => ?_⟩
    have hk1 := (List.getElem?_eq_some_iff.1 hk).1
    have hj1 : j < D.s := by have := (List.getElem?_eq_some_iff.1 hj).1; rw [D.len] at this; exact this
    have hb : k * D.s + j < l.length * D.s := by
      have : (k + 1) * D.s ≤ l.length * D.s := Nat.mul_le_mul_right _ (by omega)
      rw [Nat.succ_mul] at this; omega
    rw [row_cell (hW.trans hh) ht _ hb, flat_at D.f D.s D.len l k a hk j hj1]
    exact hj

/-- append of one record that stands in a block. -/
theorem Kd.At.push {D : Kd P α} {w : World} {la : Option Addr} {k lc : Nat} {l : List α} {sb : Option Nat} (h : D.At w (.slice la k lc) l sb) (hk : k = l.length) (hbig : l.length ≤ 1000000) {z : Nat} {a : α} {T : TypeId} (hz : w.heap[z]? = some (.cells (D.f a).toArray T (0, 0))) (c : Nat) :
    ∃ la2 lc2 sb2 w2, (Builtin.append_ #[D.T', D.T'] D.T' #[.slice la k lc, .slice (some ⟨z, 0, none⟩) 1 c]).run P w = .ok (.slice la2 (k + 1) lc2) w2 ∧ D.At w2 (.slice la2 (k + 1) lc2) (l ++ [a]) sb2 ∧ w.grownBy w2 sb ∧ (sb2 = sb ∨ sb2 = some w.heap.size) := by
  subst hk
  have hb : (l.length + 1) * D.bytes ≤ 140737488355328 := by
    have h1 : (l.length + 1) * D.bytes ≤ 1000001 * 100000 := Nat.mul_le_mul (by omega) D.small
    omega
  obtain ⟨la2, lc2, sb2, w2, hrun, hrow2, hg2, hsb2, _⟩ := row_append (P := P) w D.T' D.T' D.T D.z D.s D.bytes D.under D.info D.zs (v := .slice la l.length lc) h ⟨z, 0, none⟩ 1 c (D.f a) (by rw [D.len, Nat.one_mul])
    (fun j u hj => by
      rw [Addr.add_lit, Nat.zero_add, cell_of_row _ _ j _ _ _ hz]
      simpa using hj) (D.one a) (by omega) (by omega) hb
  refine ⟨la2, lc2, sb2, w2, hrun, ?_, hg2, hsb2⟩
  unfold Kd.At
  rw [List.length_append, List.flatMap_append, List.flatMap_cons, List.flatMap_nil, List.append_nil]
  exact hrow2

/-- A row that was begun behind the world w0. -/
def Kd.New (D : Kd P α) (w0 w : World) (v : Value) (l : List α) : Prop := ∃ sb, D.At w v l sb ∧ (∀ g, sb = some g → w0.heap.size ≤ g) ∧ Below w0.heap.size w0 w
theorem Kd.New.start (D : Kd P α) (w : World) : D.New w w (.slice none 0 0) [] := ⟨none, D.nil w, (fun g hg => by cases hg), Below.refl _ _⟩
theorem Kd.New.keep {D : Kd P α} {w0 w w' : World} {v : Value} {l : List α} (h : D.New w0 w v l) (hb : Below w.heap.size w w') : D.New w0 w' v l := by
  obtain ⟨sb, h1, h2, h3⟩ := h
  exact ⟨sb, h1.below hb, h2, btrans h3 hb⟩
theorem Kd.New.form {D : Kd P α} {w0 w : World} {v : Value} {l : List α} (h : D.New w0 w v l) : ∃ la lc, v = .slice la l.length lc := by
  obtain ⟨sb, h1, h2, h3⟩ := h
  exact h1.form
theorem Kd.New.below {D : Kd P α} {w0 w : World} {v : Value} {l : List α} (h : D.New w0 w v l) : Below w0.heap.size w0 w := by
  obtain ⟨sb, h1, h2, h3⟩ := h
  exact h3
theorem Kd.New.push {D : Kd P α} {w0 w : World} {la : Option Addr} {k lc : Nat} {l : List α} (h : D.New w0 w (.slice la k lc) l) (hk : k = l.length) (hbig : l.length ≤ 1000000) {z : Nat} {a : α} {T : TypeId} (hz : w.heap[z]? = some (.cells (D.f a).toArray T (0, 0))) (c : Nat) :
    ∃ la2 lc2 w2, (Builtin.append_ #[D.T', D.T'] D.T' #[.slice la k lc, .slice (some ⟨z, 0, none⟩) 1 c]).run P w = .ok (.slice la2 (k + 1) lc2) w2 ∧ D.New w0 w2 (.slice la2 (k + 1) lc2) (l ++ [a]) ∧ ∃ sb : Option Nat, (∀ g, sb = some g → w0.heap.size ≤ g) ∧ w.grownBy w2 sb := by
  obtain ⟨sb, h1, h2, h3⟩ := h
  obtain ⟨la2, lc2, sb2, w2, e1, e2, e3, e4⟩ := h1.push hk hbig hz c
  refine ⟨la2, lc2, w2, e1, ⟨sb2, e2, fun g hg => ?_, ?_⟩, sb, h2, e3⟩
  · rcases e4 with e | e
    · exact h2 g (e.symm.trans hg)
    · rw [hg] at e; cases e; exact h3.size
  · exact ((Fr.ofBelow (F := fun _ => False) h3).trans (Fr.ofGrown (F := fun k => sb = some k) e3 (fun k hk => hk)) (fun b hb => .inr (h2 b hb))).toBelow fun _ _ h => h

end Go.Proofs.YtedoalpijbggiaaDoor
