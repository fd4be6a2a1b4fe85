/-
  DERIVED: THE SHELF's CONTRACTS AT THIS DUMP, IN PLAIN WORDS (tools/lay-plain.mjs out of 'TrydShelf.lean', which tools/lay-shelf.mjs wrote): THE SAME DECLARATIONS UNDER THE SAME NAMES: 'import', 'namespace', 'open', 'def', 'theorem' AND NOTHING ELSE: no command of the shelf's: FOR A HAND-IN. Each laying: the table of numbers ('.._ren') and one theorem, a field a fact of the dump's own or the kernel's comparison; each contract: ONE APPLICATION.
-/
import Derived.Shelf.SlSortCmp.NoneTotal
import Derived.Ground.SlsfProg
import Derived.Test.YtcpeakceigidpaaDoorProg
set_option linter.all false
namespace Go.Proofs
open Go.Shelf
def Tryd.sortKL_ren : Go.Shelf.Ren := ⟨fun | 6 => 53 | 15 => 70 | 14 => 69 | 28 => 85 | 29 => 86 | 20 => 77 | 21 => 78 | 22 => 79 | 23 => 80 | 24 => 81 | 25 => 82 | 26 => 83 | 27 => 84 | 46 => 88 | 47 => 89 | 48 => 90 | 49 => 91 | 50 => 92 | 57 => 93 | n => n, fun | 22 => 51 | 24 => 29 | 25 => 110 | 3 => 3 | 39 => 95 | 0 => 0 | 53 => 34 | 55 => 93 | 4 => 4 | 46 => 137 | 45 => 136 | 50 => 141 | 5 => 5 | 9 => 9 | 66 => 146 | 70 => 150 | 76 => 152 | 77 => 49 | n => n, fun | n => n⟩
theorem Tryd.sortKL : Go.Proofs.SlLaysF0.n6 Tryd.prog Tryd.sortKL_ren := {
 mixed := by kernel_rfl
 f6 := ⟨Tryd.f53.name, by decide, Tryd.func53.trans (congrArg some (by kernel_rfl))⟩
 f14 := ⟨Tryd.f69.name, by decide, Tryd.func69.trans (congrArg some (by kernel_rfl))⟩
 f15 := Tryd.func70.trans (congrArg some (by kernel_rfl))
 f20 := ⟨Tryd.f77.name, by decide, Tryd.func77.trans (congrArg some (by kernel_rfl))⟩
 f21 := ⟨Tryd.f78.name, by decide, Tryd.func78.trans (congrArg some (by kernel_rfl))⟩
 f22 := ⟨Tryd.f79.name, by decide, Tryd.func79.trans (congrArg some (by kernel_rfl))⟩
 f23 := ⟨Tryd.f80.name, by decide, Tryd.func80.trans (congrArg some (by kernel_rfl))⟩
 f24 := ⟨Tryd.f81.name, by decide, Tryd.func81.trans (congrArg some (by kernel_rfl))⟩
 f25 := ⟨Tryd.f82.name, by decide, Tryd.func82.trans (congrArg some (by kernel_rfl))⟩
 f26 := ⟨Tryd.f83.name, by decide, Tryd.func83.trans (congrArg some (by kernel_rfl))⟩
 f27 := ⟨Tryd.f84.name, by decide, Tryd.func84.trans (congrArg some (by kernel_rfl))⟩
 f28 := Tryd.func85.trans (congrArg some (by kernel_rfl))
 f29 := Tryd.func86.trans (congrArg some (by kernel_rfl))
 f46 := ⟨Tryd.f88.name, by decide, Tryd.func88.trans (congrArg some (by kernel_rfl))⟩
 f47 := Tryd.func89.trans (congrArg some (by kernel_rfl))
 f48 := Tryd.func90.trans (congrArg some (by kernel_rfl))
 f49 := ⟨Tryd.f91.name, by decide, Tryd.func91.trans (congrArg some (by kernel_rfl))⟩
 f50 := ⟨Tryd.f92.name, by decide, Tryd.func92.trans (congrArg some (by kernel_rfl))⟩
 f57 := ⟨Tryd.f93.name, by decide, Tryd.func93.trans (congrArg some (by kernel_rfl))⟩
 t0 := Tryd.underlying0
 a0 := Tryd.isAgg0
 z0 := Tryd.sizeOf0
 v0 := Tryd.zeroValue0
 t3 := Tryd.underlying3
 a3 := Tryd.isAgg3
 z3 := Tryd.sizeOf3
 v3 := Tryd.zeroValue3
 t4 := Tryd.underlying4
 a4 := Tryd.isAgg4
 z4 := Tryd.sizeOf4
 v4 := Tryd.zeroValue4
 t5 := Tryd.underlying5
 a5 := Tryd.isAgg5
 z5 := Tryd.sizeOf5
 v5 := Tryd.zeroValue5
 t9 := Tryd.underlying9
 a9 := Tryd.isAgg9
 z9 := Tryd.sizeOf9
 v9 := Tryd.zeroValue9
 t22 := Tryd.underlying51
 a22 := Tryd.isAgg51
 z22 := Tryd.sizeOf51
 v22 := Tryd.zeroValue51
 t25 := Tryd.underlying110
 a25 := Tryd.isAgg110
 z25 := Tryd.sizeOf110
 v25 := Tryd.zeroValue110
 t39 := Tryd.underlying95
 a39 := Tryd.isAgg95
 z39 := Tryd.sizeOf95
 v39 := Tryd.zeroValue95
 t45 := Tryd.underlying136
 a45 := Tryd.isAgg136
 z45 := Tryd.sizeOf136
 v45 := Tryd.zeroValue136
 t46 := Tryd.underlying137
 a46 := Tryd.isAgg137
 z46 := Tryd.sizeOf137
 v46 := Tryd.zeroValue137
 t50 := Tryd.underlying141
 a50 := Tryd.isAgg141
 z50 := Tryd.sizeOf141
 v50 := Tryd.zeroValue141
 t53 := Tryd.underlying34
 a53 := Tryd.isAgg34
 z53 := Tryd.sizeOf34
 v53 := Tryd.zeroValue34
 t55 := Tryd.underlying93
 a55 := Tryd.isAgg93
 z55 := Tryd.sizeOf93
 v55 := Tryd.zeroValue93
 t66 := Tryd.underlying146
 a66 := Tryd.isAgg146
 z66 := Tryd.sizeOf146
 v66 := Tryd.zeroValue146
 t70 := Tryd.underlying150
 a70 := Tryd.isAgg150
 z70 := Tryd.sizeOf150
 v70 := Tryd.zeroValue150
 t76 := Tryd.underlying152
 a76 := Tryd.isAgg152
 z76 := Tryd.sizeOf152
 v76 := Tryd.zeroValue152
 t77 := Tryd.underlying49
 a77 := Tryd.isAgg49
 z77 := Tryd.sizeOf49
 v77 := Tryd.zeroValue49 }
end Go.Proofs
