/- The table of powers of ten, from the row's condition on the listed variables. -/
import Derived.Test.YtedoalpijbggiaaDoorNumP
import Derived.Lib.LaidU8
import Derived.MakeChecks
namespace Go.Proofs.YtedoalpijbggiaaDoor
open Go.RowKit

theorem powAt_of {w : World} {laid : List (String × DataW Unit)} (h : laidMetH Tryd.prog laid w) (hp : (laid.all fun x => x.2.handleName?.isNone) = true) (hm : ("internal/strconv.uint64pow10", Lib.tabData .u64 Lib.pow10Tab) ∈ laid) : PowAt w := by
  rw [MakeChecks.laidMetH_plain _ _ _ hp] at h
  obtain ⟨g, t, cs, fuel, p, hg, ht, hv, hd⟩ := Lib.laidMet.reads h hm
  have hg2 : Tryd.prog.globalNamed "internal/strconv.uint64pow10" = some (Tryd.laysM171_ren.g 17) := by kernel_rfl
  obtain rfl := Option.some.inj (hg2.symm.trans hg)
  obtain rfl := Option.some.inj ((show (Tryd.prog.globals[Tryd.laysM171_ren.g 17]?).map (·.type) = some 118 by kernel_rfl).symm.trans ht)
  unfold PowAt Lib.TabIs
  rw [hv, ← Lib.cells_of_tab Tryd.underlying118 Tryd.underlying106 (by kernel_rfl) (by kernel_rfl) hd]

end Go.Proofs.YtedoalpijbggiaaDoor
