/- What the row's condition on the listed variables gives: the table of powers of ten, the library's two errors; a row's step. -/
import Derived.Test.YtedoalpijbggiaaDoorR2
import Derived.Test.YtedoalpijbggiaaDoorRows
import Derived.Handed
import Derived.Stop.LaidErr
import Derived.MakeChecks
import Derived.Stood8Apart
import Derived.Plain9
namespace Go.Proofs.YtedoalpijbggiaaDoor
open Go.RowKit Go.ChangeShapes Go.WideShapes
variable {H : Type} {enc : TypeId × Value → H}

theorem step_shaped {C : Checked} {os : Os} {f : FuncId} {fn : Func} {s : ChangeSpec} {X : World → Array Value → Prop} (hX : ∀ (w w' : World) (args : Array Value), w.heap = w'.heap → X w args → X w' args)
    (own : ownKnob C.prog.godebug = none) (started : os.Started) (noInit : C.prog.inits.idxOf? f = none) (hfn : C.prog.funcs[f]? = some fn)
    (witness : ∃ (w : World) (tape : Tape) (i : Input), w.os = os ∧ (w.forCall tape i).Shaped C.prog ∧ i.vars = [] ∧ Input.okWide C.prog (w.forCall tape i) .any w.heap.size f i ∧
      ((s.pre enc C.prog fn [] false (w.forCall tape i).memory i.args ∧ X (w.forCall tape i).memory i.args) ∧ sizedMet enc C.prog fn (OpenSpec.ofChange s) false (w.forCall tape i).memory i.args) ∧ ({} : Assume).holds C.prog (lone (Frame.enter C.prog f i.args .normal) [] (w.forCall tape i)))
    (contract : ∀ (W : World) (base : Nat) (args : Array Value) (ds gs : List (DataW H)) (before : List MemPlace),
      (∀ (j : Nat) t v, fn.params[j]? = some t → args[j]? = some v → Value.okWide C.prog W .any base t v) →
      DataW.Whole enc C.prog fn.params.toList s.vars false W args.toList ds gs before → X W args → W.ShapedOpen C.prog →
      Calls C.prog f args W fun e W' => ∃ v, e = .returned v ∧ s.post enc C.prog fn false true false false W args v W') :
    ReturnsInHanded {} C os f .any (fun w args => (s.pre enc C.prog fn [] false w args ∧ X w args) ∧ sizedMet enc C.prog fn (OpenSpec.ofChange s) false w args) (s.post enc C.prog fn false true false false) := by
  refine returnsInHanded_of_calls own started noInit witness fun w tape i _ hsh _ hok hpre _ => ?_
  obtain ⟨_, _, _, g, hg, _, _, _, _, hval⟩ := hok
  obtain rfl : g = fn := Option.some.inj (hg.symm.trans hfn)
  obtain ⟨⟨⟨ds, gs, before, hw, _⟩, hx⟩, _⟩ := hpre
  refine (contract (w.forCall tape i) w.heap.size i.args ds gs before hval (DataW.Whole.of_heap (w' := w.forCall tape i) (by rfl) hw) (hX _ _ _ (by rfl) hx) hsh).mono ?_
  rintro e W' ⟨v, rfl, hp⟩
  exact ChangeSpec.post_blind hp

theorem err_star : "*" ++ "errors.errorString" = "*errors.errorString" := by decide
theorem err_row (u : TypeId) (h : Tryd.prog.typeName? 3 u = some "*errors.errorString") : u = 125 :=
  typeName_ptr_named (nm := "errors.errorString") (by rw [err_star]; kernel_rfl) (by kernel_rfl) (by decide) u (by rw [err_star]; exact h)
theorem env_of {w : World} (h : laidMetH Tryd.prog Rows.pursePlaysRow.laid w) : Env w := by
  have hl : laidMet Tryd.prog Rows.pursePlaysRow.laid w := by rw [MakeChecks.laidMetH_plain _ _ _ (by kernel_rfl)] at h; exact h
  refine ⟨⟨?_, ?_⟩, powAt_of h (by kernel_rfl) (List.mem_of_getElem? (i := 2) (by kernel_rfl))⟩
  · obtain ⟨a, s, h1, _⟩ := laid_sentinel hl.tail.tail.tail.tail Tryd.laysC172.m15 (by kernel_rfl) Tryd.underlying81 err_row Tryd.underlying125 Tryd.underlying127 rfl rfl Tryd.underlying9 (by kernel_rfl) (by kernel_rfl)
    exact ⟨_, _, h1⟩
  · obtain ⟨a, s, h1, _⟩ := laid_sentinel hl.tail.tail.tail Tryd.laysC172.m16 (by kernel_rfl) Tryd.underlying81 err_row Tryd.underlying125 Tryd.underlying127 rfl rfl Tryd.underlying9 (by kernel_rfl) (by kernel_rfl)
    exact ⟨_, _, h1⟩

end Go.Proofs.YtedoalpijbggiaaDoor
