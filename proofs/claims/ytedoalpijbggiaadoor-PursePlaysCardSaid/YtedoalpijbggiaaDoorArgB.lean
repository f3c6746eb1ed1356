/- Slices of integers that came in; Around. -/
import Derived.Test.YtedoalpijbggiaaDoorIn
import Derived.OpenShut
namespace Go.Proofs.YtedoalpijbggiaaDoor
open Go.RowKit
attribute [local go_sem ↓] Go.wp_at_zero Go.wp_at_succ

/-- A slice of integers that came in: its elements are l. -/
def ArgInts (w : World) (A : Option Addr) (n : Nat) (l : List Int) : Prop :=
  l.length = n ∧ n ≤ 9223372036854775807 ∧ (∀ x ∈ l, -9223372036854775808 ≤ x ∧ x ≤ 9223372036854775807) ∧ (n = 0 ∨ ∃ b off, A = some ⟨b, off, none⟩ ∧ ∀ k (h : k < l.length), w.cell? ⟨b, off + k, none⟩ = some (.int .i64 l[k]))

theorem ArgInts.keep {w w' : World} {A : Option Addr} {n : Nat} {l : List Int} (h : ArgInts w A n l) (hb : Below w.heap.size w w') : ArgInts w' A n l := by
  obtain ⟨h0, h1, h2, h3⟩ := h
  exact ⟨h0, h1, h2, h3.imp (fun h => h) fun ⟨b, off, e, hc⟩ => ⟨b, off, e, fun k hk => bkeep hb (hc k hk)⟩⟩

/-- From the form's own words: a row of numbers that came in. -/
theorem argInts_of {w : World} {a : Option Addr} {len cap : Nat} {zs : List Int}
    (h : (a = none ∧ len = 0 ∧ cap = 0 ∧ zs = []) ∨ ∃ x, a = some x ∧ len ≤ cap ∧ cap ≤ maxLen ∧ zs.length = cap ∧ (∀ i, i < zs.length → w.cell? (x.add i) = some (.int .i64 (zs.getD i 0))) ∧ ∀ n ∈ zs, (Lit.int .i64 n).wf = true) :
    ArgInts w a len (zs.take len) := by
  rcases h with ⟨rfl, rfl, rfl, rfl⟩ | ⟨x, rfl, h1, h2, h3, h4, h5⟩
  · exact ⟨rfl, by omega, by simp, .inl rfl⟩
  · unfold maxLen at h2
    refine ⟨by rw [List.length_take]; omega, by omega, fun y hy => ?_, ?_⟩
    · have := h5 y (List.mem_of_mem_take hy)
      exact Go.bounds_i64 this
    · by_cases h0 : len = 0
      · exact .inl h0
      · refine .inr ?_
        obtain ⟨b, off, rfl, hc⟩ := Go.ints_at h4 (by omega)
        refine ⟨b, off, rfl, fun k hk => ?_⟩
        rw [List.length_take] at hk
        rw [hc k (by omega), List.getElem_take]
        simp [List.getD, List.getElem?_eq_getElem (show k < zs.length by omega)]

end Go.Proofs.YtedoalpijbggiaaDoor
