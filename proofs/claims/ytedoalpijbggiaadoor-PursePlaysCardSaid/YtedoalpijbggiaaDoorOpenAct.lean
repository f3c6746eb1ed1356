/- An act that came in, by value: opened. -/
import Derived.Test.YtedoalpijbggiaaDoorP8
import Derived.ChangeArms
import Derived.WideShapes
import Derived.OpenShut
namespace Go.Proofs.YtedoalpijbggiaaDoor
open Go.RowKit Go.ChangeShapes Go.WideShapes
variable {H : Type} {enc : TypeId × Value → H}

def paV (a : PA) : Value := .agg #[.int .i64 a.do_, .int .i64 a.req, .string a.from_, .string a.to, .int .i64 a.n]
theorem act_fields : ∃ fs : Array Field, Tryd.prog.underlying 24 = some (.struct fs) ∧ fs.toList.map (fun f => (f.type, f.offset, Tryd.prog.cellsOf f.type)) = [(3, 0, 1), (3, 1, 1), (9, 2, 1), (9, 3, 1), (3, 4, 1)] :=
  ⟨_, Tryd.underlying24, by kernel_rfl⟩

set_option maxRecDepth 8000 in
theorem open_act {w : World} {base base' : Nat} {spare : Nat → Bool} {held : Bool} {r : Reach} {v : Value} {d : DataW H} {p : List MemPlace}
    (hv : Value.okWide Tryd.prog w r base' 24 v) (h : DataW.Trod enc Tryd.prog w base spare held 24 v d p) :
    ∃ c : PA, v = paV c ∧ (∀ x ∈ [c.do_, c.req, c.n], (Lit.int .i64 x).wf = true) ∧ c.from_.size ≤ maxLen ∧ c.to.size ≤ maxLen := by
  obtain ⟨fs, hs, hf⟩ := act_fields
  obtain ⟨cs, rfl, hsz⟩ := okWide_struct hs hv
  have h8 : cs.size = 5 := hsz.trans (by kernel_rfl)
  obtain ⟨fuel, ht⟩ := h
  obtain ⟨xs, n, _, _, _, hlen, hall⟩ := DataW.trod_struct hs ht
  have hfl : fs.size = 5 := by have := congrArg List.length hf; simpa using this
  have F : ∀ (k : Nat) (T : TypeId), k < 5 → [(3, 0, 1), (3, 1, 1), (9, 2, 1), (9, 3, 1), (3, 4, 1)][k]? = some (T, k, 1) → ∃ y, DataW.trod enc Tryd.prog w base spare held n T ((cs.toList.drop k).take 1) = some y := by
    intro k T hk9 hk
    rw [← hf, List.getElem?_map] at hk
    cases hfk : fs.toList[k]? with
    | none => rw [hfk] at hk; cases hk
    | some f =>
      rw [hfk, Option.map_some, Option.some.injEq, Prod.mk.injEq, Prod.mk.injEq] at hk
      obtain ⟨e1, e2, e3⟩ := hk
      have g := hall k f (by rw [← Array.getElem?_toList]; exact hfk)
      rw [e3, e1, e2, List.getElem?_eq_getElem (by omega)] at g
      exact ⟨_, g⟩
  obtain ⟨l⟩ := cs
  match l, h8 with
  | [a0, a1, a2, a3, a4], _ =>
    obtain ⟨_, g0⟩ := F 0 _ (by decide) rfl
    obtain ⟨_, g1⟩ := F 1 _ (by decide) rfl
    obtain ⟨_, g2⟩ := F 2 _ (by decide) rfl
    obtain ⟨_, g3⟩ := F 3 _ (by decide) rfl
    obtain ⟨_, g4⟩ := F 4 _ (by decide) rfl
    obtain ⟨z0, e0, _, w0⟩ := DataW.trod_int Tryd.underlying3 g0
    obtain ⟨z1, e1, _, w1⟩ := DataW.trod_int Tryd.underlying3 g1
    obtain ⟨z2, e2, _, w2⟩ := DataW.trod_string Tryd.underlying9 g2
    obtain ⟨z3, e3, _, w3⟩ := DataW.trod_string Tryd.underlying9 g3
    obtain ⟨z4, e4, _, w4⟩ := DataW.trod_int Tryd.underlying3 g4
    simp only [List.drop_succ_cons, List.drop_zero, List.take_succ_cons, List.take_zero, List.cons.injEq, and_true] at e0 e1 e2 e3 e4
    subst e0 e1 e2 e3 e4
    refine ⟨⟨z0, z1, z2, z3, z4⟩, rfl, fun x hx => ?_, w2, w3⟩
    simp only [List.mem_cons, List.not_mem_nil, or_false] at hx
    rcases hx with rfl | rfl | rfl <;> assumption

end Go.Proofs.YtedoalpijbggiaaDoor
