/- The library's sort, laid at pairs (by a tool of the kit). No statement of the seat is proved here. -/
import Derived.WalkKit
import Derived.LoopN
import Derived.Handy
import Derived.StillTailTactics
import Derived.Shelf.Small.Bits
import Derived.Shelf.Small.Wraps
import Derived.Shelf.SlLaysF0
import Derived.Shelf.SlGeneric
import Derived.Shelf.SlSortCmp.InsertionK
import Derived.Ground.SlsfProg
import Derived.Ground.SlgnProg
import Derived.Ground.NamesProg
import Derived.Ground.Names2Prog
import Derived.Test.YtdkknknebehkgaaProg
namespace Go.Proofs.Ytdkknknebehkgaa.Al
set_option linter.unusedVariables false
set_option linter.unusedSimpArgs false
open Go Go.Shelf Go.RowKit Go.Lib Go.Sort
def sortPair_ren : Go.Shelf.Ren := ⟨fun | 6 => 64 | 15 => 73 | 14 => 72 | 28 => 89 | 29 => 90 | 20 => 81 | 21 => 82 | 22 => 83 | 23 => 84 | 24 => 85 | 25 => 86 | 26 => 87 | 27 => 88 | 46 => 91 | 47 => 92 | 48 => 93 | 49 => 94 | 50 => 95 | 57 => 96 | n => n, fun | 22 => 41 | 24 => 75 | 25 => 117 | 3 => 3 | 39 => 108 | 0 => 0 | 53 => 120 | 55 => 123 | 4 => 4 | 46 => 149 | 45 => 148 | 50 => 81 | 5 => 5 | 9 => 9 | 66 => 156 | 70 => 160 | 76 => 162 | 77 => 163 | n => n, fun | n => n⟩
theorem sortPair : Go.Proofs.SlLaysF0.n6 Try.prog sortPair_ren := {
  mixed := by kernel_rfl
  f6 := ⟨Try.f64.name, by decide, Try.func64.trans (congrArg some (by kernel_rfl))⟩
  f14 := ⟨Try.f72.name, by decide, Try.func72.trans (congrArg some (by kernel_rfl))⟩
  f15 := Try.func73.trans (congrArg some (by kernel_rfl))
  f20 := ⟨Try.f81.name, by decide, Try.func81.trans (congrArg some (by kernel_rfl))⟩
  f21 := ⟨Try.f82.name, by decide, Try.func82.trans (congrArg some (by kernel_rfl))⟩
  f22 := ⟨Try.f83.name, by decide, Try.func83.trans (congrArg some (by kernel_rfl))⟩
  f23 := ⟨Try.f84.name, by decide, Try.func84.trans (congrArg some (by kernel_rfl))⟩
  f24 := ⟨Try.f85.name, by decide, Try.func85.trans (congrArg some (by kernel_rfl))⟩
  f25 := ⟨Try.f86.name, by decide, Try.func86.trans (congrArg some (by kernel_rfl))⟩
  f26 := ⟨Try.f87.name, by decide, Try.func87.trans (congrArg some (by kernel_rfl))⟩
  f27 := ⟨Try.f88.name, by decide, Try.func88.trans (congrArg some (by kernel_rfl))⟩
  f28 := Try.func89.trans (congrArg some (by kernel_rfl))
  f29 := Try.func90.trans (congrArg some (by kernel_rfl))
  f46 := ⟨Try.f91.name, by decide, Try.func91.trans (congrArg some (by kernel_rfl))⟩
  f47 := Try.func92.trans (congrArg some (by kernel_rfl))
  f48 := Try.func93.trans (congrArg some (by kernel_rfl))
  f49 := ⟨Try.f94.name, by decide, Try.func94.trans (congrArg some (by kernel_rfl))⟩
  f50 := ⟨Try.f95.name, by decide, Try.func95.trans (congrArg some (by kernel_rfl))⟩
  f57 := ⟨Try.f96.name, by decide, Try.func96.trans (congrArg some (by kernel_rfl))⟩
  t0 := Try.underlying0
  a0 := Try.isAgg0
  z0 := Try.sizeOf0
  v0 := Try.zeroValue0
  t3 := Try.underlying3
  a3 := Try.isAgg3
  z3 := Try.sizeOf3
  v3 := Try.zeroValue3
  t4 := Try.underlying4
  a4 := Try.isAgg4
  z4 := Try.sizeOf4
  v4 := Try.zeroValue4
  t5 := Try.underlying5
  a5 := Try.isAgg5
  z5 := Try.sizeOf5
  v5 := Try.zeroValue5
  t9 := Try.underlying9
  a9 := Try.isAgg9
  z9 := Try.sizeOf9
  v9 := Try.zeroValue9
  t22 := Try.underlying41
  a22 := Try.isAgg41
  z22 := Try.sizeOf41
  v22 := Try.zeroValue41
  t25 := Try.underlying117
  a25 := Try.isAgg117
  z25 := Try.sizeOf117
  v25 := Try.zeroValue117
  t39 := Try.underlying108
  a39 := Try.isAgg108
  z39 := Try.sizeOf108
  v39 := Try.zeroValue108
  t45 := Try.underlying148
  a45 := Try.isAgg148
  z45 := Try.sizeOf148
  v45 := Try.zeroValue148
  t46 := Try.underlying149
  a46 := Try.isAgg149
  z46 := Try.sizeOf149
  v46 := Try.zeroValue149
  t50 := Try.underlying81
  a50 := Try.isAgg81
  z50 := Try.sizeOf81
  v50 := Try.zeroValue81
  t53 := Try.underlying120
  a53 := Try.isAgg120
  z53 := Try.sizeOf120
  v53 := Try.zeroValue120
  t55 := Try.underlying123
  a55 := Try.isAgg123
  z55 := Try.sizeOf123
  v55 := Try.zeroValue123
  t66 := Try.underlying156
  a66 := Try.isAgg156
  z66 := Try.sizeOf156
  v66 := Try.zeroValue156
  t70 := Try.underlying160
  a70 := Try.isAgg160
  z70 := Try.sizeOf160
  v70 := Try.zeroValue160
  t76 := Try.underlying162
  a76 := Try.isAgg162
  z76 := Try.sizeOf162
  v76 := Try.zeroValue162
  t77 := Try.underlying163
  a77 := Try.isAgg163
  z77 := Try.sizeOf163
  v77 := Try.zeroValue163 }
def lays122_ren : Go.Shelf.Ren := ⟨fun | 122 => 66 | 215 => 74 | n => n, fun | 3 => 3 | 4 => 4 | n => n, fun | n => n⟩
theorem lays122 : Go.Proofs.Lays.n122 Try.prog lays122_ren := {
  mixed := by kernel_rfl
  f122 := Try.func66.trans (congrArg some (by kernel_rfl))
  f215 := Try.func74.trans (congrArg some (by kernel_rfl))
  t3 := Try.underlying3
  a3 := Try.isAgg3
  z3 := Try.sizeOf3
  v3 := Try.zeroValue3
  t4 := Try.underlying4
  a4 := Try.isAgg4
  z4 := Try.sizeOf4
  v4 := Try.zeroValue4 }
end Go.Proofs.Ytdkknknebehkgaa.Al
