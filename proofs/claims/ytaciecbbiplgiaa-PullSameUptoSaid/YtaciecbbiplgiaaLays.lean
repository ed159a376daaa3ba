/-
  DERIVED: THE SHELF's CONTRACTS AT THIS DUMP, IN PLAIN WORDS (tools/lay-plain.mjs out of 'YtaciecbbiplgiaaLays.lean', which tools/lay-shelf.mjs wrote): THE SAME DECLARATIONS UNDER THE SAME NAMES: 'import', 'namespace', 'open', 'def', 'theorem' AND NOTHING ELSE: no command of the shelf's: FOR A HAND-IN. Each laying: the table of numbers ('.._ren') and one theorem, a field a fact of the dump's own or the kernel's comparison; each contract: ONE APPLICATION.
-/
import Derived.Shelf.SlIter.Nil
import Derived.Shelf.SortM.Plain
import Derived.Shelf.SortM.SortNone
import Derived.Shelf.SlMaps.Clone
import Derived.Ground.GgzProg
import Derived.Ground.SlgmProg
import Derived.Ground.SlmcProg
import Derived.Test.YtaciecbbiplgiaaProg
namespace Go.Proofs
open Go.Shelf
def Try.keys62_ren : Go.Shelf.Ren := ⟨fun | 7 => 62 | 10 => 73 | n => n, fun | 23 => 59 | 26 => 9 | 3 => 74 | 28 => 124 | 0 => 0 | 27 => 123 | 33 => 92 | 4 => 4 | n => n, fun | n => n⟩
theorem Try.keys62 : Go.Proofs.SlLaysZ.n7 Try.prog Try.keys62_ren := {
  mixed := by kernel_rfl
  f7 := ⟨Try.f62.name, by decide, Try.func62.trans (congrArg some (by kernel_rfl))⟩
  f10 := ⟨Try.f73.name, by decide, Try.func73.trans (congrArg some (by kernel_rfl))⟩
  t0 := Try.underlying0
  a0 := Try.isAgg0
  z0 := Try.sizeOf0
  v0 := Try.zeroValue0
  t4 := Try.underlying4
  a4 := Try.isAgg4
  z4 := Try.sizeOf4
  v4 := Try.zeroValue4
  t23 := Try.underlying59
  a23 := Try.isAgg59
  z23 := Try.sizeOf59
  v23 := Try.zeroValue59
  t26 := Try.underlying9
  a26 := Try.isAgg9
  z26 := Try.sizeOf9
  v26 := Try.zeroValue9
  t27 := Try.underlying123
  a27 := Try.isAgg123
  z27 := Try.sizeOf123
  v27 := Try.zeroValue123
  t28 := Try.underlying124
  a28 := Try.isAgg124
  z28 := Try.sizeOf124
  v28 := Try.zeroValue124
  t33 := Try.underlying92
  a33 := Try.isAgg92
  z33 := Try.sizeOf92
  v33 := Try.zeroValue92 }
def Try.sorted61_ren : Go.Shelf.Ren := ⟨fun | 6 => 61 | 8 => 71 | 9 => 72 | 11 => 76 | 13 => 78 | 12 => 77 | 23 => 91 | 24 => 92 | 14 => 82 | 15 => 83 | 16 => 84 | 17 => 85 | 18 => 86 | 19 => 87 | 20 => 88 | 21 => 89 | 22 => 90 | 25 => 95 | 26 => 96 | 27 => 97 | 28 => 98 | 29 => 99 | 30 => 100 | 31 => 102 | n => n, fun | 26 => 9 | 28 => 124 | 24 => 69 | 0 => 0 | 3 => 3 | 37 => 138 | 48 => 149 | 50 => 151 | 4 => 4 | 40 => 142 | 39 => 141 | 45 => 44 | 5 => 5 | 9 => 9 | 51 => 154 | 55 => 158 | 57 => 160 | 58 => 161 | 33 => 92 | n => n, fun | n => n⟩
theorem Try.sorted61 : Go.Proofs.SlLaysZ.n6 Try.prog Try.sorted61_ren := {
  mixed := by kernel_rfl
  f6 := ⟨Try.f61.name, by decide, Try.func61.trans (congrArg some (by kernel_rfl))⟩
  f8 := ⟨Try.f71.name, by decide, Try.func71.trans (congrArg some (by kernel_rfl))⟩
  f11 := ⟨Try.f76.name, by decide, Try.func76.trans (congrArg some (by kernel_rfl))⟩
  t0 := Try.underlying0
  a0 := Try.isAgg0
  z0 := Try.sizeOf0
  v0 := Try.zeroValue0
  t24 := Try.underlying69
  a24 := Try.isAgg69
  z24 := Try.sizeOf69
  v24 := Try.zeroValue69
  t26 := Try.underlying9
  a26 := Try.isAgg9
  z26 := Try.sizeOf9
  v26 := Try.zeroValue9
  t28 := Try.underlying124
  a28 := Try.isAgg124
  z28 := Try.sizeOf124
  v28 := Try.zeroValue124
  i26 := by kernel_rfl }
def Try.sort72_ren : Go.Shelf.Ren := ⟨fun | 6 => 72 | 8 => 78 | 9 => 77 | 19 => 91 | 20 => 92 | 21 => 82 | 22 => 83 | 23 => 84 | 24 => 85 | 25 => 86 | 26 => 87 | 27 => 88 | 28 => 89 | 29 => 90 | 36 => 95 | 31 => 96 | 32 => 97 | 37 => 98 | 38 => 99 | 39 => 100 | 41 => 102 | n => n, fun | 27 => 69 | 29 => 9 | 3 => 3 | 32 => 138 | 26 => 69 | 0 => 0 | 44 => 149 | 46 => 151 | 4 => 4 | 36 => 142 | 35 => 141 | 41 => 44 | 5 => 5 | 9 => 9 | 53 => 154 | 57 => 158 | 63 => 160 | 64 => 161 | n => n, fun | n => n⟩
theorem Try.sort72 : Go.Proofs.SlLaysM.n6 Try.prog Try.sort72_ren := {
  mixed := by kernel_rfl
  f6 := ⟨Try.f72.name, by decide, Try.func72.trans (congrArg some (by kernel_rfl))⟩
  f8 := Try.func78.trans (congrArg some (by kernel_rfl))
  f9 := ⟨Try.f77.name, by decide, Try.func77.trans (congrArg some (by kernel_rfl))⟩
  f19 := Try.func91.trans (congrArg some (by kernel_rfl))
  f20 := Try.func92.trans (congrArg some (by kernel_rfl))
  f21 := ⟨Try.f82.name, by decide, Try.func82.trans (congrArg some (by kernel_rfl))⟩
  f22 := ⟨Try.f83.name, by decide, Try.func83.trans (congrArg some (by kernel_rfl))⟩
  f23 := ⟨Try.f84.name, by decide, Try.func84.trans (congrArg some (by kernel_rfl))⟩
  f24 := ⟨Try.f85.name, by decide, Try.func85.trans (congrArg some (by kernel_rfl))⟩
  f25 := ⟨Try.f86.name, by decide, Try.func86.trans (congrArg some (by kernel_rfl))⟩
  f26 := ⟨Try.f87.name, by decide, Try.func87.trans (congrArg some (by kernel_rfl))⟩
  f27 := ⟨Try.f88.name, by decide, Try.func88.trans (congrArg some (by kernel_rfl))⟩
  f28 := ⟨Try.f89.name, by decide, Try.func89.trans (congrArg some (by kernel_rfl))⟩
  f29 := ⟨Try.f90.name, by decide, Try.func90.trans (congrArg some (by kernel_rfl))⟩
  f31 := Try.func96.trans (congrArg some (by kernel_rfl))
  f32 := Try.func97.trans (congrArg some (by kernel_rfl))
  f36 := ⟨Try.f95.name, by decide, Try.func95.trans (congrArg some (by kernel_rfl))⟩
  f37 := ⟨Try.f98.name, by decide, Try.func98.trans (congrArg some (by kernel_rfl))⟩
  f38 := ⟨Try.f99.name, by decide, Try.func99.trans (congrArg some (by kernel_rfl))⟩
  f39 := ⟨Try.f100.name, by decide, Try.func100.trans (congrArg some (by kernel_rfl))⟩
  f41 := ⟨Try.f102.name, by decide, Try.func102.trans (congrArg some (by kernel_rfl))⟩
  t0 := Try.underlying0
  a0 := Try.isAgg0
  z0 := Try.sizeOf0
  v0 := Try.zeroValue0
  t3 := Try.underlying3
  a3 := Try.isAgg3
  z3 := Try.sizeOf3
  v3 := Try.zeroValue3
  t4 := Try.underlying4
  a4 := Try.isAgg4
  z4 := Try.sizeOf4
  v4 := Try.zeroValue4
  t5 := Try.underlying5
  a5 := Try.isAgg5
  z5 := Try.sizeOf5
  v5 := Try.zeroValue5
  t9 := Try.underlying9
  a9 := Try.isAgg9
  z9 := Try.sizeOf9
  v9 := Try.zeroValue9
  t26 := Try.underlying69
  a26 := Try.isAgg69
  z26 := Try.sizeOf69
  v26 := Try.zeroValue69
  t27 := Try.underlying69
  a27 := Try.isAgg69
  z27 := Try.sizeOf69
  v27 := Try.zeroValue69
  t29 := Try.underlying9
  a29 := Try.isAgg9
  z29 := Try.sizeOf9
  v29 := Try.zeroValue9
  t32 := Try.underlying138
  a32 := Try.isAgg138
  z32 := Try.sizeOf138
  v32 := Try.zeroValue138
  t35 := Try.underlying141
  a35 := Try.isAgg141
  z35 := Try.sizeOf141
  v35 := Try.zeroValue141
  t36 := Try.underlying142
  a36 := Try.isAgg142
  z36 := Try.sizeOf142
  v36 := Try.zeroValue142
  t41 := Try.underlying44
  a41 := Try.isAgg44
  z41 := Try.sizeOf44
  v41 := Try.zeroValue44
  t44 := Try.underlying149
  a44 := Try.isAgg149
  z44 := Try.sizeOf149
  v44 := Try.zeroValue149
  t46 := Try.underlying151
  a46 := Try.isAgg151
  z46 := Try.sizeOf151
  v46 := Try.zeroValue151
  t53 := Try.underlying154
  a53 := Try.isAgg154
  z53 := Try.sizeOf154
  v53 := Try.zeroValue154
  t57 := Try.underlying158
  a57 := Try.isAgg158
  z57 := Try.sizeOf158
  v57 := Try.zeroValue158
  t63 := Try.underlying160
  a63 := Try.isAgg160
  z63 := Try.sizeOf160
  v63 := Try.zeroValue160
  t64 := Try.underlying161
  a64 := Try.isAgg161
  z64 := Try.sizeOf161
  v64 := Try.zeroValue161 }
end Go.Proofs
