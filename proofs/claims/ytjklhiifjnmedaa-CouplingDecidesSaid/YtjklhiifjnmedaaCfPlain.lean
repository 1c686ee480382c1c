/-
  DERIVED: THE SHELF's CONTRACTS AT THIS DUMP, IN PLAIN WORDS (tools/lay-plain.mjs out of 'YtjklhiifjnmedaaCfShelf.lean', which tools/lay-shelf.mjs wrote): THE SAME DECLARATIONS UNDER THE SAME NAMES: 'import', 'namespace', 'open', 'def', 'theorem' AND NOTHING ELSE: no command of the shelf's: FOR A HAND-IN. Each laying: the table of numbers ('.._ren') and one theorem, a field a fact of the dump's own or the kernel's comparison; each contract: ONE APPLICATION.
-/
import Derived.Shelf.SlIterI.Nil
import Derived.Shelf.SortM.Plain
import Derived.Shelf.SortM.SortNone
import Derived.Shelf.SlicesG.CompactI
import Derived.Ground.GgzProg
import Derived.Ground.SlgmProg
import Derived.Ground.SlgnProg
import Derived.Test.YtjklhiifjnmedaaProg
namespace Go.Proofs
open Go.Shelf
def Try.sortI_ren : Go.Shelf.Ren := ⟨fun | 5 => 64 | 8 => 75 | 7 => 74 | 19 => 92 | 20 => 93 | 10 => 83 | 11 => 84 | 12 => 85 | 13 => 86 | 14 => 87 | 15 => 88 | 16 => 89 | 17 => 90 | 18 => 91 | 30 => 97 | 31 => 98 | 32 => 99 | 33 => 100 | 34 => 101 | 35 => 102 | 40 => 103 | n => n, fun | 23 => 28 | 25 => 3 | 3 => 3 | 32 => 106 | 22 => 28 | 0 => 0 | 44 => 121 | 46 => 123 | 4 => 4 | 36 => 115 | 35 => 114 | 41 => 63 | 5 => 5 | 9 => 9 | 53 => 126 | 57 => 130 | 63 => 133 | 64 => 134 | n => n, fun | n => n⟩
theorem Try.sortI : Go.Proofs.SlLaysM.n5 Try.prog Try.sortI_ren := {
  mixed := by kernel_rfl
  f5 := ⟨Try.f64.name, by decide, Try.func64.trans (congrArg some (by kernel_rfl))⟩
  f7 := ⟨Try.f74.name, by decide, Try.func74.trans (congrArg some (by kernel_rfl))⟩
  f8 := Try.func75.trans (congrArg some (by kernel_rfl))
  f10 := ⟨Try.f83.name, by decide, Try.func83.trans (congrArg some (by kernel_rfl))⟩
  f11 := ⟨Try.f84.name, by decide, Try.func84.trans (congrArg some (by kernel_rfl))⟩
  f12 := ⟨Try.f85.name, by decide, Try.func85.trans (congrArg some (by kernel_rfl))⟩
  f13 := ⟨Try.f86.name, by decide, Try.func86.trans (congrArg some (by kernel_rfl))⟩
  f14 := ⟨Try.f87.name, by decide, Try.func87.trans (congrArg some (by kernel_rfl))⟩
  f15 := ⟨Try.f88.name, by decide, Try.func88.trans (congrArg some (by kernel_rfl))⟩
  f16 := ⟨Try.f89.name, by decide, Try.func89.trans (congrArg some (by kernel_rfl))⟩
  f17 := ⟨Try.f90.name, by decide, Try.func90.trans (congrArg some (by kernel_rfl))⟩
  f18 := ⟨Try.f91.name, by decide, Try.func91.trans (congrArg some (by kernel_rfl))⟩
  f19 := Try.func92.trans (congrArg some (by kernel_rfl))
  f20 := Try.func93.trans (congrArg some (by kernel_rfl))
  f30 := ⟨Try.f97.name, by decide, Try.func97.trans (congrArg some (by kernel_rfl))⟩
  f31 := Try.func98.trans (congrArg some (by kernel_rfl))
  f32 := Try.func99.trans (congrArg some (by kernel_rfl))
  f33 := ⟨Try.f100.name, by decide, Try.func100.trans (congrArg some (by kernel_rfl))⟩
  f34 := ⟨Try.f101.name, by decide, Try.func101.trans (congrArg some (by kernel_rfl))⟩
  f35 := ⟨Try.f102.name, by decide, Try.func102.trans (congrArg some (by kernel_rfl))⟩
  f40 := ⟨Try.f103.name, by decide, Try.func103.trans (congrArg some (by kernel_rfl))⟩
  t0 := Try.underlying0
  a0 := Try.isAgg0
  z0 := Try.sizeOf0
  v0 := Try.zeroValue0
  t3 := Try.underlying3
  a3 := Try.isAgg3
  z3 := Try.sizeOf3
  v3 := Try.zeroValue3
  t4 := Try.underlying4
  a4 := Try.isAgg4
  z4 := Try.sizeOf4
  v4 := Try.zeroValue4
  t5 := Try.underlying5
  a5 := Try.isAgg5
  z5 := Try.sizeOf5
  v5 := Try.zeroValue5
  t9 := Try.underlying9
  a9 := Try.isAgg9
  z9 := Try.sizeOf9
  v9 := Try.zeroValue9
  t22 := Try.underlying28
  a22 := Try.isAgg28
  z22 := Try.sizeOf28
  v22 := Try.zeroValue28
  t23 := Try.underlying28
  a23 := Try.isAgg28
  z23 := Try.sizeOf28
  v23 := Try.zeroValue28
  t25 := Try.underlying3
  a25 := Try.isAgg3
  z25 := Try.sizeOf3
  v25 := Try.zeroValue3
  t32 := Try.underlying106
  a32 := Try.isAgg106
  z32 := Try.sizeOf106
  v32 := Try.zeroValue106
  t35 := Try.underlying114
  a35 := Try.isAgg114
  z35 := Try.sizeOf114
  v35 := Try.zeroValue114
  t36 := Try.underlying115
  a36 := Try.isAgg115
  z36 := Try.sizeOf115
  v36 := Try.zeroValue115
  t41 := Try.underlying63
  a41 := Try.isAgg63
  z41 := Try.sizeOf63
  v41 := Try.zeroValue63
  t44 := Try.underlying121
  a44 := Try.isAgg121
  z44 := Try.sizeOf121
  v44 := Try.zeroValue121
  t46 := Try.underlying123
  a46 := Try.isAgg123
  z46 := Try.sizeOf123
  v46 := Try.zeroValue123
  t53 := Try.underlying126
  a53 := Try.isAgg126
  z53 := Try.sizeOf126
  v53 := Try.zeroValue126
  t57 := Try.underlying130
  a57 := Try.isAgg130
  z57 := Try.sizeOf130
  v57 := Try.zeroValue130
  t63 := Try.underlying133
  a63 := Try.isAgg133
  z63 := Try.sizeOf133
  v63 := Try.zeroValue133
  t64 := Try.underlying134
  a64 := Try.isAgg134
  z64 := Try.sizeOf134
  v64 := Try.zeroValue134 }
def Try.compI_ren : Go.Shelf.Ren := ⟨fun | 43 => 65 | n => n, fun | 22 => 28 | 23 => 3 | 3 => 3 | 4 => 4 | 0 => 0 | n => n, fun | n => n⟩
theorem Try.compI : Go.Proofs.SlLaysN.n43 Try.prog Try.compI_ren := {
  mixed := by kernel_rfl
  f43 := ⟨Try.f65.name, by decide, Try.func65.trans (congrArg some (by kernel_rfl))⟩
  t0 := Try.underlying0
  a0 := Try.isAgg0
  z0 := Try.sizeOf0
  v0 := Try.zeroValue0
  t3 := Try.underlying3
  a3 := Try.isAgg3
  z3 := Try.sizeOf3
  v3 := Try.zeroValue3
  t4 := Try.underlying4
  a4 := Try.isAgg4
  z4 := Try.sizeOf4
  v4 := Try.zeroValue4
  t22 := Try.underlying28
  a22 := Try.isAgg28
  z22 := Try.sizeOf28
  v22 := Try.zeroValue28
  t23 := Try.underlying3
  a23 := Try.isAgg3
  z23 := Try.sizeOf3
  v23 := Try.zeroValue3
  i23 := by kernel_rfl }
end Go.Proofs
