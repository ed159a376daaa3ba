/-
  DERIVED: THE SHELF's CONTRACTS AT THIS DUMP, IN PLAIN WORDS (tools/lay-plain.mjs out of 'YtclklmajbnadcaaLays.lean', which tools/lay-shelf.mjs wrote): THE SAME DECLARATIONS UNDER THE SAME NAMES: 'import', 'namespace', 'open', 'def', 'theorem' AND NOTHING ELSE: no command of the shelf's: FOR A HAND-IN. Each laying: the table of numbers ('.._ren') and one theorem, a field a fact of the dump's own or the kernel's comparison; each contract: ONE APPLICATION.
-/
import Derived.Shelf.SlIter.Nil
import Derived.Shelf.SortM.Plain
import Derived.Shelf.SortM.SortNone
import Derived.Shelf.SlMaps.Clone
import Derived.Ground.GgzProg
import Derived.Ground.SlgmProg
import Derived.Ground.SlmcProg
import Derived.Test.YtclklmajbnadcaaProg
namespace Go.Proofs
open Go.Shelf
def Try.keys44_ren : Go.Shelf.Ren := ⟨fun | 7 => 44 | 10 => 66 | n => n, fun | 23 => 67 | 26 => 9 | 3 => 71 | 28 => 89 | 0 => 0 | 27 => 88 | 33 => 74 | 4 => 4 | n => n, fun | n => n⟩
theorem Try.keys44 : Go.Proofs.SlLaysZ.n7 Try.prog Try.keys44_ren := {
  mixed := by kernel_rfl
  f7 := ⟨Try.f44.name, by decide, Try.func44.trans (congrArg some (by kernel_rfl))⟩
  f10 := ⟨Try.f66.name, by decide, Try.func66.trans (congrArg some (by kernel_rfl))⟩
  t0 := Try.underlying0
  a0 := Try.isAgg0
  z0 := Try.sizeOf0
  v0 := Try.zeroValue0
  t4 := Try.underlying4
  a4 := Try.isAgg4
  z4 := Try.sizeOf4
  v4 := Try.zeroValue4
  t23 := Try.underlying67
  a23 := Try.isAgg67
  z23 := Try.sizeOf67
  v23 := Try.zeroValue67
  t26 := Try.underlying9
  a26 := Try.isAgg9
  z26 := Try.sizeOf9
  v26 := Try.zeroValue9
  t27 := Try.underlying88
  a27 := Try.isAgg88
  z27 := Try.sizeOf88
  v27 := Try.zeroValue88
  t28 := Try.underlying89
  a28 := Try.isAgg89
  z28 := Try.sizeOf89
  v28 := Try.zeroValue89
  t33 := Try.underlying74
  a33 := Try.isAgg74
  z33 := Try.sizeOf74
  v33 := Try.zeroValue74 }
def Try.sorted43_ren : Go.Shelf.Ren := ⟨fun | 6 => 43 | 8 => 64 | 9 => 65 | 11 => 79 | 13 => 81 | 12 => 80 | 23 => 97 | 24 => 98 | 14 => 88 | 15 => 89 | 16 => 90 | 17 => 91 | 18 => 92 | 19 => 93 | 20 => 94 | 21 => 95 | 22 => 96 | 25 => 102 | 26 => 103 | 27 => 104 | 28 => 105 | 29 => 106 | 30 => 107 | 31 => 109 | n => n, fun | 26 => 9 | 28 => 89 | 24 => 46 | 0 => 0 | 3 => 3 | 37 => 40 | 48 => 151 | 50 => 153 | 4 => 4 | 40 => 143 | 39 => 142 | 45 => 148 | 5 => 5 | 9 => 9 | 51 => 157 | 55 => 161 | 57 => 163 | 58 => 164 | 33 => 74 | n => n, fun | n => n⟩
theorem Try.sorted43 : Go.Proofs.SlLaysZ.n6 Try.prog Try.sorted43_ren := {
  mixed := by kernel_rfl
  f6 := ⟨Try.f43.name, by decide, Try.func43.trans (congrArg some (by kernel_rfl))⟩
  f8 := ⟨Try.f64.name, by decide, Try.func64.trans (congrArg some (by kernel_rfl))⟩
  f11 := ⟨Try.f79.name, by decide, Try.func79.trans (congrArg some (by kernel_rfl))⟩
  t0 := Try.underlying0
  a0 := Try.isAgg0
  z0 := Try.sizeOf0
  v0 := Try.zeroValue0
  t24 := Try.underlying46
  a24 := Try.isAgg46
  z24 := Try.sizeOf46
  v24 := Try.zeroValue46
  t26 := Try.underlying9
  a26 := Try.isAgg9
  z26 := Try.sizeOf9
  v26 := Try.zeroValue9
  t28 := Try.underlying89
  a28 := Try.isAgg89
  z28 := Try.sizeOf89
  v28 := Try.zeroValue89
  i26 := by kernel_rfl }
def Try.sort65_ren : Go.Shelf.Ren := ⟨fun | 6 => 65 | 8 => 81 | 9 => 80 | 19 => 97 | 20 => 98 | 21 => 88 | 22 => 89 | 23 => 90 | 24 => 91 | 25 => 92 | 26 => 93 | 27 => 94 | 28 => 95 | 29 => 96 | 36 => 102 | 31 => 103 | 32 => 104 | 37 => 105 | 38 => 106 | 39 => 107 | 41 => 109 | n => n, fun | 27 => 46 | 29 => 9 | 3 => 3 | 32 => 40 | 26 => 46 | 0 => 0 | 44 => 151 | 46 => 153 | 4 => 4 | 36 => 143 | 35 => 142 | 41 => 148 | 5 => 5 | 9 => 9 | 53 => 157 | 57 => 161 | 63 => 163 | 64 => 164 | n => n, fun | n => n⟩
theorem Try.sort65 : Go.Proofs.SlLaysM.n6 Try.prog Try.sort65_ren := {
  mixed := by kernel_rfl
  f6 := ⟨Try.f65.name, by decide, Try.func65.trans (congrArg some (by kernel_rfl))⟩
  f8 := Try.func81.trans (congrArg some (by kernel_rfl))
  f9 := ⟨Try.f80.name, by decide, Try.func80.trans (congrArg some (by kernel_rfl))⟩
  f19 := Try.func97.trans (congrArg some (by kernel_rfl))
  f20 := Try.func98.trans (congrArg some (by kernel_rfl))
  f21 := ⟨Try.f88.name, by decide, Try.func88.trans (congrArg some (by kernel_rfl))⟩
  f22 := ⟨Try.f89.name, by decide, Try.func89.trans (congrArg some (by kernel_rfl))⟩
  f23 := ⟨Try.f90.name, by decide, Try.func90.trans (congrArg some (by kernel_rfl))⟩
  f24 := ⟨Try.f91.name, by decide, Try.func91.trans (congrArg some (by kernel_rfl))⟩
  f25 := ⟨Try.f92.name, by decide, Try.func92.trans (congrArg some (by kernel_rfl))⟩
  f26 := ⟨Try.f93.name, by decide, Try.func93.trans (congrArg some (by kernel_rfl))⟩
  f27 := ⟨Try.f94.name, by decide, Try.func94.trans (congrArg some (by kernel_rfl))⟩
  f28 := ⟨Try.f95.name, by decide, Try.func95.trans (congrArg some (by kernel_rfl))⟩
  f29 := ⟨Try.f96.name, by decide, Try.func96.trans (congrArg some (by kernel_rfl))⟩
  f31 := Try.func103.trans (congrArg some (by kernel_rfl))
  f32 := Try.func104.trans (congrArg some (by kernel_rfl))
  f36 := ⟨Try.f102.name, by decide, Try.func102.trans (congrArg some (by kernel_rfl))⟩
  f37 := ⟨Try.f105.name, by decide, Try.func105.trans (congrArg some (by kernel_rfl))⟩
  f38 := ⟨Try.f106.name, by decide, Try.func106.trans (congrArg some (by kernel_rfl))⟩
  f39 := ⟨Try.f107.name, by decide, Try.func107.trans (congrArg some (by kernel_rfl))⟩
  f41 := ⟨Try.f109.name, by decide, Try.func109.trans (congrArg some (by kernel_rfl))⟩
  t0 := Try.underlying0
  a0 := Try.isAgg0
  z0 := Try.sizeOf0
  v0 := Try.zeroValue0
  t3 := Try.underlying3
  a3 := Try.isAgg3
  z3 := Try.sizeOf3
  v3 := Try.zeroValue3
  t4 := Try.underlying4
  a4 := Try.isAgg4
  z4 := Try.sizeOf4
  v4 := Try.zeroValue4
  t5 := Try.underlying5
  a5 := Try.isAgg5
  z5 := Try.sizeOf5
  v5 := Try.zeroValue5
  t9 := Try.underlying9
  a9 := Try.isAgg9
  z9 := Try.sizeOf9
  v9 := Try.zeroValue9
  t26 := Try.underlying46
  a26 := Try.isAgg46
  z26 := Try.sizeOf46
  v26 := Try.zeroValue46
  t27 := Try.underlying46
  a27 := Try.isAgg46
  z27 := Try.sizeOf46
  v27 := Try.zeroValue46
  t29 := Try.underlying9
  a29 := Try.isAgg9
  z29 := Try.sizeOf9
  v29 := Try.zeroValue9
  t32 := Try.underlying40
  a32 := Try.isAgg40
  z32 := Try.sizeOf40
  v32 := Try.zeroValue40
  t35 := Try.underlying142
  a35 := Try.isAgg142
  z35 := Try.sizeOf142
  v35 := Try.zeroValue142
  t36 := Try.underlying143
  a36 := Try.isAgg143
  z36 := Try.sizeOf143
  v36 := Try.zeroValue143
  t41 := Try.underlying148
  a41 := Try.isAgg148
  z41 := Try.sizeOf148
  v41 := Try.zeroValue148
  t44 := Try.underlying151
  a44 := Try.isAgg151
  z44 := Try.sizeOf151
  v44 := Try.zeroValue151
  t46 := Try.underlying153
  a46 := Try.isAgg153
  z46 := Try.sizeOf153
  v46 := Try.zeroValue153
  t53 := Try.underlying157
  a53 := Try.isAgg157
  z53 := Try.sizeOf157
  v53 := Try.zeroValue157
  t57 := Try.underlying161
  a57 := Try.isAgg161
  z57 := Try.sizeOf161
  v57 := Try.zeroValue161
  t63 := Try.underlying163
  a63 := Try.isAgg163
  z63 := Try.sizeOf163
  v63 := Try.zeroValue163
  t64 := Try.underlying164
  a64 := Try.isAgg164
  z64 := Try.sizeOf164
  v64 := Try.zeroValue164 }
def Try.clone83_ren : Go.Shelf.Ren := ⟨fun | 5 => 83 | 7 => 99 | n => n, fun | 23 => 105 | 25 => 3 | 3 => 119 | 4 => 4 | 20 => 20 | n => n, fun | n => n⟩
theorem Try.clone83 : Go.Proofs.SlLaysW.n5 Try.prog Try.clone83_ren := {
  mixed := by kernel_rfl
  f5 := ⟨Try.f83.name, by decide, Try.func83.trans (congrArg some (by kernel_rfl))⟩
  f7 := Try.func99.trans (congrArg some (by kernel_rfl))
  t4 := Try.underlying4
  a4 := Try.isAgg4
  z4 := Try.sizeOf4
  v4 := Try.zeroValue4
  t20 := Try.underlying20
  a20 := Try.isAgg20
  z20 := Try.sizeOf20
  v20 := Try.zeroValue20
  t23 := Try.underlying105
  a23 := Try.isAgg105
  z23 := Try.sizeOf105
  v23 := Try.zeroValue105 }
end Go.Proofs
