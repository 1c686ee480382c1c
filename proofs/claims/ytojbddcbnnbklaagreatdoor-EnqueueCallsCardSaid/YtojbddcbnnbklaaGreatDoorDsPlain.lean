/-
  DERIVED: THE SHELF's CONTRACTS AT THIS DUMP, IN PLAIN WORDS (tools/lay-plain.mjs out of 'YtojbddcbnnbklaaGreatDoorDsShelf.lean', which tools/lay-shelf.mjs wrote): THE SAME DECLARATIONS UNDER THE SAME NAMES: 'import', 'namespace', 'open', 'def', 'theorem' AND NOTHING ELSE: no command of the shelf's: FOR A HAND-IN. Each laying: the table of numbers ('.._ren') and one theorem, a field a fact of the dump's own or the kernel's comparison; each contract: ONE APPLICATION.
-/
import Derived.Ground.NamesProg
import Derived.Shelf.Strings.SplitShaped
import Derived.Test.YtojbddcbnnbklaaGreatDoorProg
namespace Go.Proofs
open Go.Shelf
def Tryz.laysM146_ren : Go.Shelf.Ren := ⟨fun | 146 => 73 | 221 => 92 | 268 => 100 | 138 => 101 | 143 => 102 | 195 => 104 | 197 => 105 | 218 => 106 | 219 => 107 | 260 => 108 | 217 => 109 | 225 => 110 | 224 => 111 | 267 => 112 | 266 => 113 | 314 => 114 | n => n, fun | 9 => 9 | 31 => 80 | 3 => 3 | 4 => 4 | 0 => 0 | 105 => 144 | 21 => 21 | 5 => 5 | 46 => 95 | 119 => 148 | 139 => 151 | 138 => 150 | 146 => 152 | 51 => 114 | n => n, fun | 1 => 0 | 3 => 1 | 4 => 2 | n => n⟩
theorem Tryz.laysM146 : Go.Proofs.LaysM.n146 Tryz.prog Tryz.laysM146_ren := {
  mixed := by kernel_rfl
  f138 := Tryz.func101.trans (congrArg some (by kernel_rfl))
  f143 := Tryz.func102.trans (congrArg some (by kernel_rfl))
  f146 := Tryz.func73.trans (congrArg some (by kernel_rfl))
  f195 := Tryz.func104.trans (congrArg some (by kernel_rfl))
  f197 := Tryz.func105.trans (congrArg some (by kernel_rfl))
  f217 := Tryz.func109.trans (congrArg some (by kernel_rfl))
  f218 := Tryz.func106.trans (congrArg some (by kernel_rfl))
  f219 := Tryz.func107.trans (congrArg some (by kernel_rfl))
  f221 := Tryz.func92.trans (congrArg some (by kernel_rfl))
  f224 := Tryz.func111.trans (congrArg some (by kernel_rfl))
  f225 := Tryz.func110.trans (congrArg some (by kernel_rfl))
  f260 := Tryz.func108.trans (congrArg some (by kernel_rfl))
  f266 := Tryz.func113.trans (congrArg some (by kernel_rfl))
  f267 := Tryz.func112.trans (congrArg some (by kernel_rfl))
  f268 := Tryz.func100.trans (congrArg some (by kernel_rfl))
  f314 := Tryz.func114.trans (congrArg some (by kernel_rfl))
  t0 := Tryz.underlying0
  a0 := Tryz.isAgg0
  z0 := Tryz.sizeOf0
  v0 := Tryz.zeroValue0
  t3 := Tryz.underlying3
  a3 := Tryz.isAgg3
  z3 := Tryz.sizeOf3
  v3 := Tryz.zeroValue3
  t4 := Tryz.underlying4
  a4 := Tryz.isAgg4
  z4 := Tryz.sizeOf4
  v4 := Tryz.zeroValue4
  t5 := Tryz.underlying5
  a5 := Tryz.isAgg5
  z5 := Tryz.sizeOf5
  v5 := Tryz.zeroValue5
  t9 := Tryz.underlying9
  a9 := Tryz.isAgg9
  z9 := Tryz.sizeOf9
  v9 := Tryz.zeroValue9
  t21 := Tryz.underlying21
  a21 := Tryz.isAgg21
  z21 := Tryz.sizeOf21
  v21 := Tryz.zeroValue21
  t31 := Tryz.underlying80
  a31 := Tryz.isAgg80
  z31 := Tryz.sizeOf80
  v31 := Tryz.zeroValue80
  t46 := Tryz.underlying95
  a46 := Tryz.isAgg95
  z46 := Tryz.sizeOf95
  v46 := Tryz.zeroValue95
  t51 := Tryz.underlying114
  a51 := Tryz.isAgg114
  z51 := Tryz.sizeOf114
  v51 := Tryz.zeroValue114
  t105 := Tryz.underlying144
  a105 := Tryz.isAgg144
  z105 := Tryz.sizeOf144
  v105 := Tryz.zeroValue144
  t119 := Tryz.underlying148
  a119 := Tryz.isAgg148
  z119 := Tryz.sizeOf148
  t138 := Tryz.underlying150
  a138 := Tryz.isAgg150
  z138 := Tryz.sizeOf150
  v138 := Tryz.zeroValue150
  t139 := Tryz.underlying151
  a139 := Tryz.isAgg151
  z139 := Tryz.sizeOf151
  v139 := Tryz.zeroValue151
  t146 := Tryz.underlying152
  a146 := Tryz.isAgg152
  z146 := Tryz.sizeOf152
  v146 := Tryz.zeroValue152
  g1 := by kernel_rfl
  g3 := by kernel_rfl
  g4 := by kernel_rfl
  i0 := by kernel_rfl
  i3 := by kernel_rfl
  i4 := by kernel_rfl
  i5 := by kernel_rfl
  i9 := by kernel_rfl
  i21 := by kernel_rfl
  i31 := by kernel_rfl
  i46 := by kernel_rfl
  i51 := by kernel_rfl
  i105 := by kernel_rfl
  i138 := by kernel_rfl
  i139 := by kernel_rfl
  i146 := by kernel_rfl
  m1 := by kernel_rfl
  s1_3 := fun w h => Go.Proofs.cell_of_shapedOpen_int (zero := #[.int .i64 0]) (t := 3) h (of_decide_eq_true (by kernel_rfl)) (by kernel_rfl) rfl (by kernel_rfl) (by kernel_rfl) Tryz.underlying3
  m3 := by kernel_rfl
  m4 := by kernel_rfl }
end Go.Proofs
