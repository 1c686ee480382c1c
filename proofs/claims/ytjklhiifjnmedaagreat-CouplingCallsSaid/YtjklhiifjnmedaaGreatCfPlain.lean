/-
  DERIVED: THE SHELF's CONTRACTS AT THIS DUMP, IN PLAIN WORDS (tools/lay-plain.mjs out of 'YtjklhiifjnmedaaGreatCfShelf.lean', which tools/lay-shelf.mjs wrote): THE SAME DECLARATIONS UNDER THE SAME NAMES: 'import', 'namespace', 'open', 'def', 'theorem' AND NOTHING ELSE: no command of the shelf's: FOR A HAND-IN. Each laying: the table of numbers ('.._ren') and one theorem, a field a fact of the dump's own or the kernel's comparison; each contract: ONE APPLICATION.
-/
import Derived.Shelf.SlIterI.Nil
import Derived.Shelf.SortM.Plain
import Derived.Shelf.SortM.SortNone
import Derived.Shelf.SlicesG.CompactI
import Derived.Ground.GgzProg
import Derived.Ground.SlgmProg
import Derived.Ground.SlgnProg
import Derived.Test.YtjklhiifjnmedaaGreatProg
namespace Go.Proofs
open Go.Shelf
def Tryz.sortI_ren : Go.Shelf.Ren := ⟨fun | 5 => 72 | 8 => 104 | 7 => 103 | 19 => 134 | 20 => 135 | 10 => 125 | 11 => 126 | 12 => 127 | 13 => 128 | 14 => 129 | 15 => 130 | 16 => 131 | 17 => 132 | 18 => 133 | 30 => 140 | 31 => 141 | 32 => 142 | 33 => 143 | 34 => 144 | 35 => 145 | 40 => 147 | n => n, fun | 23 => 34 | 25 => 3 | 3 => 3 | 32 => 136 | 22 => 34 | 0 => 0 | 44 => 158 | 46 => 160 | 4 => 4 | 36 => 152 | 35 => 151 | 41 => 39 | 5 => 5 | 9 => 9 | 53 => 164 | 57 => 168 | 63 => 171 | 64 => 96 | n => n, fun | n => n⟩
theorem Tryz.sortI : Go.Proofs.SlLaysM.n5 Tryz.prog Tryz.sortI_ren := {
  mixed := by kernel_rfl
  f5 := ⟨Tryz.f72.name, by decide, Tryz.func72.trans (congrArg some (by kernel_rfl))⟩
  f7 := ⟨Tryz.f103.name, by decide, Tryz.func103.trans (congrArg some (by kernel_rfl))⟩
  f8 := Tryz.func104.trans (congrArg some (by kernel_rfl))
  f10 := ⟨Tryz.f125.name, by decide, Tryz.func125.trans (congrArg some (by kernel_rfl))⟩
  f11 := ⟨Tryz.f126.name, by decide, Tryz.func126.trans (congrArg some (by kernel_rfl))⟩
  f12 := ⟨Tryz.f127.name, by decide, Tryz.func127.trans (congrArg some (by kernel_rfl))⟩
  f13 := ⟨Tryz.f128.name, by decide, Tryz.func128.trans (congrArg some (by kernel_rfl))⟩
  f14 := ⟨Tryz.f129.name, by decide, Tryz.func129.trans (congrArg some (by kernel_rfl))⟩
  f15 := ⟨Tryz.f130.name, by decide, Tryz.func130.trans (congrArg some (by kernel_rfl))⟩
  f16 := ⟨Tryz.f131.name, by decide, Tryz.func131.trans (congrArg some (by kernel_rfl))⟩
  f17 := ⟨Tryz.f132.name, by decide, Tryz.func132.trans (congrArg some (by kernel_rfl))⟩
  f18 := ⟨Tryz.f133.name, by decide, Tryz.func133.trans (congrArg some (by kernel_rfl))⟩
  f19 := Tryz.func134.trans (congrArg some (by kernel_rfl))
  f20 := Tryz.func135.trans (congrArg some (by kernel_rfl))
  f30 := ⟨Tryz.f140.name, by decide, Tryz.func140.trans (congrArg some (by kernel_rfl))⟩
  f31 := Tryz.func141.trans (congrArg some (by kernel_rfl))
  f32 := Tryz.func142.trans (congrArg some (by kernel_rfl))
  f33 := ⟨Tryz.f143.name, by decide, Tryz.func143.trans (congrArg some (by kernel_rfl))⟩
  f34 := ⟨Tryz.f144.name, by decide, Tryz.func144.trans (congrArg some (by kernel_rfl))⟩
  f35 := ⟨Tryz.f145.name, by decide, Tryz.func145.trans (congrArg some (by kernel_rfl))⟩
  f40 := ⟨Tryz.f147.name, by decide, Tryz.func147.trans (congrArg some (by kernel_rfl))⟩
  t0 := Tryz.underlying0
  a0 := Tryz.isAgg0
  z0 := Tryz.sizeOf0
  v0 := Tryz.zeroValue0
  t3 := Tryz.underlying3
  a3 := Tryz.isAgg3
  z3 := Tryz.sizeOf3
  v3 := Tryz.zeroValue3
  t4 := Tryz.underlying4
  a4 := Tryz.isAgg4
  z4 := Tryz.sizeOf4
  v4 := Tryz.zeroValue4
  t5 := Tryz.underlying5
  a5 := Tryz.isAgg5
  z5 := Tryz.sizeOf5
  v5 := Tryz.zeroValue5
  t9 := Tryz.underlying9
  a9 := Tryz.isAgg9
  z9 := Tryz.sizeOf9
  v9 := Tryz.zeroValue9
  t22 := Tryz.underlying34
  a22 := Tryz.isAgg34
  z22 := Tryz.sizeOf34
  v22 := Tryz.zeroValue34
  t23 := Tryz.underlying34
  a23 := Tryz.isAgg34
  z23 := Tryz.sizeOf34
  v23 := Tryz.zeroValue34
  t25 := Tryz.underlying3
  a25 := Tryz.isAgg3
  z25 := Tryz.sizeOf3
  v25 := Tryz.zeroValue3
  t32 := Tryz.underlying136
  a32 := Tryz.isAgg136
  z32 := Tryz.sizeOf136
  v32 := Tryz.zeroValue136
  t35 := Tryz.underlying151
  a35 := Tryz.isAgg151
  z35 := Tryz.sizeOf151
  v35 := Tryz.zeroValue151
  t36 := Tryz.underlying152
  a36 := Tryz.isAgg152
  z36 := Tryz.sizeOf152
  v36 := Tryz.zeroValue152
  t41 := Tryz.underlying39
  a41 := Tryz.isAgg39
  z41 := Tryz.sizeOf39
  v41 := Tryz.zeroValue39
  t44 := Tryz.underlying158
  a44 := Tryz.isAgg158
  z44 := Tryz.sizeOf158
  v44 := Tryz.zeroValue158
  t46 := Tryz.underlying160
  a46 := Tryz.isAgg160
  z46 := Tryz.sizeOf160
  v46 := Tryz.zeroValue160
  t53 := Tryz.underlying164
  a53 := Tryz.isAgg164
  z53 := Tryz.sizeOf164
  v53 := Tryz.zeroValue164
  t57 := Tryz.underlying168
  a57 := Tryz.isAgg168
  z57 := Tryz.sizeOf168
  v57 := Tryz.zeroValue168
  t63 := Tryz.underlying171
  a63 := Tryz.isAgg171
  z63 := Tryz.sizeOf171
  v63 := Tryz.zeroValue171
  t64 := Tryz.underlying96
  a64 := Tryz.isAgg96
  z64 := Tryz.sizeOf96
  v64 := Tryz.zeroValue96 }
def Tryz.compI_ren : Go.Shelf.Ren := ⟨fun | 43 => 73 | n => n, fun | 22 => 34 | 23 => 3 | 3 => 3 | 4 => 4 | 0 => 0 | n => n, fun | n => n⟩
theorem Tryz.compI : Go.Proofs.SlLaysN.n43 Tryz.prog Tryz.compI_ren := {
  mixed := by kernel_rfl
  f43 := ⟨Tryz.f73.name, by decide, Tryz.func73.trans (congrArg some (by kernel_rfl))⟩
  t0 := Tryz.underlying0
  a0 := Tryz.isAgg0
  z0 := Tryz.sizeOf0
  v0 := Tryz.zeroValue0
  t3 := Tryz.underlying3
  a3 := Tryz.isAgg3
  z3 := Tryz.sizeOf3
  v3 := Tryz.zeroValue3
  t4 := Tryz.underlying4
  a4 := Tryz.isAgg4
  z4 := Tryz.sizeOf4
  v4 := Tryz.zeroValue4
  t22 := Tryz.underlying34
  a22 := Tryz.isAgg34
  z22 := Tryz.sizeOf34
  v22 := Tryz.zeroValue34
  t23 := Tryz.underlying3
  a23 := Tryz.isAgg3
  z23 := Tryz.sizeOf3
  v23 := Tryz.zeroValue3
  i23 := by kernel_rfl }
end Go.Proofs
