/-
  DERIVED: THE SHELF's CONTRACTS AT THIS DUMP, IN PLAIN WORDS (tools/lay-plain.mjs out of 'YtipmajcefcfnlaaLay.lean', which tools/lay-shelf.mjs wrote): THE SAME DECLARATIONS UNDER THE SAME NAMES: 'import', 'namespace', 'open', 'def', 'theorem' AND NOTHING ELSE: no command of the shelf's: FOR A HAND-IN. Each laying: the table of numbers ('.._ren') and one theorem, a field a fact of the dump's own or the kernel's comparison; each contract: ONE APPLICATION.
-/
import Derived.Shelf.SlIterI.Nil
import Derived.Shelf.SlIterI.Sorted
import Derived.Shelf.SortM.Plain
import Derived.Shelf.SortM.SortNone
import Derived.Ground.GgzProg
import Derived.Ground.SlgmProg
import Derived.Test.YtipmajcefcfnlaaProg
namespace Go.Proofs
open Go.Shelf
def Try.keysA_ren : Go.Shelf.Ren := ⟨fun | 7 => 33 | 10 => 50 | n => n, fun | 23 => 65 | 26 => 3 | 3 => 75 | 28 => 72 | 0 => 0 | 27 => 71 | 33 => 88 | 4 => 4 | n => n, fun | n => n⟩
theorem Try.keysA : Go.Proofs.SlLaysZI.n7 Try.prog Try.keysA_ren := {
  mixed := by kernel_rfl
  f7 := ⟨Try.f33.name, by decide, Try.func33.trans (congrArg some (by kernel_rfl))⟩
  f10 := ⟨Try.f50.name, by decide, Try.func50.trans (congrArg some (by kernel_rfl))⟩
  t0 := Try.underlying0
  a0 := Try.isAgg0
  z0 := Try.sizeOf0
  v0 := Try.zeroValue0
  t4 := Try.underlying4
  a4 := Try.isAgg4
  z4 := Try.sizeOf4
  v4 := Try.zeroValue4
  t23 := Try.underlying65
  a23 := Try.isAgg65
  z23 := Try.sizeOf65
  v23 := Try.zeroValue65
  t26 := Try.underlying3
  a26 := Try.isAgg3
  z26 := Try.sizeOf3
  v26 := Try.zeroValue3
  t27 := Try.underlying71
  a27 := Try.isAgg71
  z27 := Try.sizeOf71
  v27 := Try.zeroValue71
  t28 := Try.underlying72
  a28 := Try.isAgg72
  z28 := Try.sizeOf72
  v28 := Try.zeroValue72
  t33 := Try.underlying88
  a33 := Try.isAgg88
  z33 := Try.sizeOf88
  v33 := Try.zeroValue88 }
def Try.sortedA_ren : Go.Shelf.Ren := ⟨fun | 6 => 32 | 8 => 48 | 9 => 49 | 11 => 57 | 13 => 59 | 12 => 58 | 23 => 72 | 24 => 73 | 14 => 63 | 15 => 64 | 16 => 65 | 17 => 66 | 18 => 67 | 19 => 68 | 20 => 69 | 21 => 70 | 22 => 71 | 25 => 75 | 26 => 76 | 27 => 77 | 28 => 78 | 29 => 79 | 30 => 80 | 31 => 81 | n => n, fun | 26 => 3 | 28 => 72 | 24 => 22 | 0 => 0 | 3 => 3 | 37 => 102 | 48 => 114 | 50 => 95 | 4 => 4 | 40 => 108 | 39 => 107 | 45 => 92 | 5 => 5 | 9 => 9 | 51 => 115 | 55 => 119 | 57 => 121 | 58 => 84 | 33 => 88 | n => n, fun | n => n⟩
theorem Try.sortedA : Go.Proofs.SlLaysZI.n6 Try.prog Try.sortedA_ren := {
  mixed := by kernel_rfl
  f6 := ⟨Try.f32.name, by decide, Try.func32.trans (congrArg some (by kernel_rfl))⟩
  f8 := ⟨Try.f48.name, by decide, Try.func48.trans (congrArg some (by kernel_rfl))⟩
  f11 := ⟨Try.f57.name, by decide, Try.func57.trans (congrArg some (by kernel_rfl))⟩
  t0 := Try.underlying0
  a0 := Try.isAgg0
  z0 := Try.sizeOf0
  v0 := Try.zeroValue0
  t24 := Try.underlying22
  a24 := Try.isAgg22
  z24 := Try.sizeOf22
  v24 := Try.zeroValue22
  t26 := Try.underlying3
  a26 := Try.isAgg3
  z26 := Try.sizeOf3
  v26 := Try.zeroValue3
  t28 := Try.underlying72
  a28 := Try.isAgg72
  z28 := Try.sizeOf72
  v28 := Try.zeroValue72
  i26 := by kernel_rfl }
def Try.sortA_ren : Go.Shelf.Ren := ⟨fun | 5 => 49 | 8 => 59 | 7 => 58 | 19 => 72 | 20 => 73 | 10 => 63 | 11 => 64 | 12 => 65 | 13 => 66 | 14 => 67 | 15 => 68 | 16 => 69 | 17 => 70 | 18 => 71 | 30 => 75 | 31 => 76 | 32 => 77 | 33 => 78 | 34 => 79 | 35 => 80 | 40 => 81 | n => n, fun | 23 => 22 | 25 => 3 | 3 => 3 | 32 => 102 | 22 => 22 | 0 => 0 | 44 => 114 | 46 => 95 | 4 => 4 | 36 => 108 | 35 => 107 | 41 => 92 | 5 => 5 | 9 => 9 | 53 => 115 | 57 => 119 | 63 => 121 | 64 => 84 | n => n, fun | n => n⟩
theorem Try.sortA : Go.Proofs.SlLaysM.n5 Try.prog Try.sortA_ren := {
  mixed := by kernel_rfl
  f5 := ⟨Try.f49.name, by decide, Try.func49.trans (congrArg some (by kernel_rfl))⟩
  f7 := ⟨Try.f58.name, by decide, Try.func58.trans (congrArg some (by kernel_rfl))⟩
  f8 := Try.func59.trans (congrArg some (by kernel_rfl))
  f10 := ⟨Try.f63.name, by decide, Try.func63.trans (congrArg some (by kernel_rfl))⟩
  f11 := ⟨Try.f64.name, by decide, Try.func64.trans (congrArg some (by kernel_rfl))⟩
  f12 := ⟨Try.f65.name, by decide, Try.func65.trans (congrArg some (by kernel_rfl))⟩
  f13 := ⟨Try.f66.name, by decide, Try.func66.trans (congrArg some (by kernel_rfl))⟩
  f14 := ⟨Try.f67.name, by decide, Try.func67.trans (congrArg some (by kernel_rfl))⟩
  f15 := ⟨Try.f68.name, by decide, Try.func68.trans (congrArg some (by kernel_rfl))⟩
  f16 := ⟨Try.f69.name, by decide, Try.func69.trans (congrArg some (by kernel_rfl))⟩
  f17 := ⟨Try.f70.name, by decide, Try.func70.trans (congrArg some (by kernel_rfl))⟩
  f18 := ⟨Try.f71.name, by decide, Try.func71.trans (congrArg some (by kernel_rfl))⟩
  f19 := Try.func72.trans (congrArg some (by kernel_rfl))
  f20 := Try.func73.trans (congrArg some (by kernel_rfl))
  f30 := ⟨Try.f75.name, by decide, Try.func75.trans (congrArg some (by kernel_rfl))⟩
  f31 := Try.func76.trans (congrArg some (by kernel_rfl))
  f32 := Try.func77.trans (congrArg some (by kernel_rfl))
  f33 := ⟨Try.f78.name, by decide, Try.func78.trans (congrArg some (by kernel_rfl))⟩
  f34 := ⟨Try.f79.name, by decide, Try.func79.trans (congrArg some (by kernel_rfl))⟩
  f35 := ⟨Try.f80.name, by decide, Try.func80.trans (congrArg some (by kernel_rfl))⟩
  f40 := ⟨Try.f81.name, by decide, Try.func81.trans (congrArg some (by kernel_rfl))⟩
  t0 := Try.underlying0
  a0 := Try.isAgg0
  z0 := Try.sizeOf0
  v0 := Try.zeroValue0
  t3 := Try.underlying3
  a3 := Try.isAgg3
  z3 := Try.sizeOf3
  v3 := Try.zeroValue3
  t4 := Try.underlying4
  a4 := Try.isAgg4
  z4 := Try.sizeOf4
  v4 := Try.zeroValue4
  t5 := Try.underlying5
  a5 := Try.isAgg5
  z5 := Try.sizeOf5
  v5 := Try.zeroValue5
  t9 := Try.underlying9
  a9 := Try.isAgg9
  z9 := Try.sizeOf9
  v9 := Try.zeroValue9
  t22 := Try.underlying22
  a22 := Try.isAgg22
  z22 := Try.sizeOf22
  v22 := Try.zeroValue22
  t23 := Try.underlying22
  a23 := Try.isAgg22
  z23 := Try.sizeOf22
  v23 := Try.zeroValue22
  t25 := Try.underlying3
  a25 := Try.isAgg3
  z25 := Try.sizeOf3
  v25 := Try.zeroValue3
  t32 := Try.underlying102
  a32 := Try.isAgg102
  z32 := Try.sizeOf102
  v32 := Try.zeroValue102
  t35 := Try.underlying107
  a35 := Try.isAgg107
  z35 := Try.sizeOf107
  v35 := Try.zeroValue107
  t36 := Try.underlying108
  a36 := Try.isAgg108
  z36 := Try.sizeOf108
  v36 := Try.zeroValue108
  t41 := Try.underlying92
  a41 := Try.isAgg92
  z41 := Try.sizeOf92
  v41 := Try.zeroValue92
  t44 := Try.underlying114
  a44 := Try.isAgg114
  z44 := Try.sizeOf114
  v44 := Try.zeroValue114
  t46 := Try.underlying95
  a46 := Try.isAgg95
  z46 := Try.sizeOf95
  v46 := Try.zeroValue95
  t53 := Try.underlying115
  a53 := Try.isAgg115
  z53 := Try.sizeOf115
  v53 := Try.zeroValue115
  t57 := Try.underlying119
  a57 := Try.isAgg119
  z57 := Try.sizeOf119
  v57 := Try.zeroValue119
  t63 := Try.underlying121
  a63 := Try.isAgg121
  z63 := Try.sizeOf121
  v63 := Try.zeroValue121
  t64 := Try.underlying84
  a64 := Try.isAgg84
  z64 := Try.sizeOf84
  v64 := Try.zeroValue84 }
end Go.Proofs
