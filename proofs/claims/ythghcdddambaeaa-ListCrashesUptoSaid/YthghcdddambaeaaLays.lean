/-
  DERIVED: THE SHELF's CONTRACTS AT THIS DUMP, IN PLAIN WORDS (tools/lay-plain.mjs out of 'YthghcdddambaeaaLays.lean', which tools/lay-shelf.mjs wrote): THE SAME DECLARATIONS UNDER THE SAME NAMES: 'import', 'namespace', 'open', 'def', 'theorem' AND NOTHING ELSE: no command of the shelf's: FOR A HAND-IN. Each laying: the table of numbers ('.._ren') and one theorem, a field a fact of the dump's own or the kernel's comparison; each contract: ONE APPLICATION.
-/
import Derived.Shelf.SlIter.Nil
import Derived.Shelf.SortM.Plain
import Derived.Shelf.SortM.SortNone
import Derived.Shelf.SlMaps.Clone
import Derived.Ground.GgzProg
import Derived.Ground.SlgmProg
import Derived.Ground.SlmcProg
import Derived.Test.YthghcdddambaeaaProg
namespace Go.Proofs
open Go.Shelf
def Try.keys93_ren : Go.Shelf.Ren := ⟨fun | 7 => 93 | 10 => 124 | n => n, fun | 23 => 135 | 26 => 9 | 3 => 71 | 28 => 156 | 0 => 0 | 27 => 155 | 33 => 70 | 4 => 4 | n => n, fun | n => n⟩
theorem Try.keys93 : Go.Proofs.SlLaysZ.n7 Try.prog Try.keys93_ren := {
  mixed := by kernel_rfl
  f7 := ⟨Try.f93.name, by decide, Try.func93.trans (congrArg some (by kernel_rfl))⟩
  f10 := ⟨Try.f124.name, by decide, Try.func124.trans (congrArg some (by kernel_rfl))⟩
  t0 := Try.underlying0
  a0 := Try.isAgg0
  z0 := Try.sizeOf0
  v0 := Try.zeroValue0
  t4 := Try.underlying4
  a4 := Try.isAgg4
  z4 := Try.sizeOf4
  v4 := Try.zeroValue4
  t23 := Try.underlying135
  a23 := Try.isAgg135
  z23 := Try.sizeOf135
  v23 := Try.zeroValue135
  t26 := Try.underlying9
  a26 := Try.isAgg9
  z26 := Try.sizeOf9
  v26 := Try.zeroValue9
  t27 := Try.underlying155
  a27 := Try.isAgg155
  z27 := Try.sizeOf155
  v27 := Try.zeroValue155
  t28 := Try.underlying156
  a28 := Try.isAgg156
  z28 := Try.sizeOf156
  v28 := Try.zeroValue156
  t33 := Try.underlying70
  a33 := Try.isAgg70
  z33 := Try.sizeOf70
  v33 := Try.zeroValue70 }
def Try.sorted92_ren : Go.Shelf.Ren := ⟨fun | 6 => 92 | 8 => 122 | 9 => 123 | 11 => 140 | 13 => 142 | 12 => 141 | 23 => 155 | 24 => 156 | 14 => 146 | 15 => 147 | 16 => 148 | 17 => 149 | 18 => 150 | 19 => 151 | 20 => 152 | 21 => 153 | 22 => 154 | 25 => 157 | 26 => 158 | 27 => 159 | 28 => 160 | 29 => 161 | 30 => 162 | 31 => 163 | n => n, fun | 26 => 9 | 28 => 156 | 24 => 57 | 0 => 0 | 3 => 3 | 37 => 189 | 48 => 238 | 50 => 240 | 4 => 4 | 40 => 230 | 39 => 229 | 45 => 235 | 5 => 5 | 9 => 9 | 51 => 241 | 55 => 245 | 57 => 247 | 58 => 201 | 33 => 70 | n => n, fun | n => n⟩
theorem Try.sorted92 : Go.Proofs.SlLaysZ.n6 Try.prog Try.sorted92_ren := {
  mixed := by kernel_rfl
  f6 := ⟨Try.f92.name, by decide, Try.func92.trans (congrArg some (by kernel_rfl))⟩
  f8 := ⟨Try.f122.name, by decide, Try.func122.trans (congrArg some (by kernel_rfl))⟩
  f11 := ⟨Try.f140.name, by decide, Try.func140.trans (congrArg some (by kernel_rfl))⟩
  t0 := Try.underlying0
  a0 := Try.isAgg0
  z0 := Try.sizeOf0
  v0 := Try.zeroValue0
  t24 := Try.underlying57
  a24 := Try.isAgg57
  z24 := Try.sizeOf57
  v24 := Try.zeroValue57
  t26 := Try.underlying9
  a26 := Try.isAgg9
  z26 := Try.sizeOf9
  v26 := Try.zeroValue9
  t28 := Try.underlying156
  a28 := Try.isAgg156
  z28 := Try.sizeOf156
  v28 := Try.zeroValue156
  i26 := by kernel_rfl }
def Try.sort123_ren : Go.Shelf.Ren := ⟨fun | 6 => 123 | 8 => 142 | 9 => 141 | 19 => 155 | 20 => 156 | 21 => 146 | 22 => 147 | 23 => 148 | 24 => 149 | 25 => 150 | 26 => 151 | 27 => 152 | 28 => 153 | 29 => 154 | 36 => 157 | 31 => 158 | 32 => 159 | 37 => 160 | 38 => 161 | 39 => 162 | 41 => 163 | n => n, fun | 27 => 57 | 29 => 9 | 3 => 3 | 32 => 189 | 26 => 57 | 0 => 0 | 44 => 238 | 46 => 240 | 4 => 4 | 36 => 230 | 35 => 229 | 41 => 235 | 5 => 5 | 9 => 9 | 53 => 241 | 57 => 245 | 63 => 247 | 64 => 201 | n => n, fun | n => n⟩
theorem Try.sort123 : Go.Proofs.SlLaysM.n6 Try.prog Try.sort123_ren := {
  mixed := by kernel_rfl
  f6 := ⟨Try.f123.name, by decide, Try.func123.trans (congrArg some (by kernel_rfl))⟩
  f8 := Try.func142.trans (congrArg some (by kernel_rfl))
  f9 := ⟨Try.f141.name, by decide, Try.func141.trans (congrArg some (by kernel_rfl))⟩
  f19 := Try.func155.trans (congrArg some (by kernel_rfl))
  f20 := Try.func156.trans (congrArg some (by kernel_rfl))
  f21 := ⟨Try.f146.name, by decide, Try.func146.trans (congrArg some (by kernel_rfl))⟩
  f22 := ⟨Try.f147.name, by decide, Try.func147.trans (congrArg some (by kernel_rfl))⟩
  f23 := ⟨Try.f148.name, by decide, Try.func148.trans (congrArg some (by kernel_rfl))⟩
  f24 := ⟨Try.f149.name, by decide, Try.func149.trans (congrArg some (by kernel_rfl))⟩
  f25 := ⟨Try.f150.name, by decide, Try.func150.trans (congrArg some (by kernel_rfl))⟩
  f26 := ⟨Try.f151.name, by decide, Try.func151.trans (congrArg some (by kernel_rfl))⟩
  f27 := ⟨Try.f152.name, by decide, Try.func152.trans (congrArg some (by kernel_rfl))⟩
  f28 := ⟨Try.f153.name, by decide, Try.func153.trans (congrArg some (by kernel_rfl))⟩
  f29 := ⟨Try.f154.name, by decide, Try.func154.trans (congrArg some (by kernel_rfl))⟩
  f31 := Try.func158.trans (congrArg some (by kernel_rfl))
  f32 := Try.func159.trans (congrArg some (by kernel_rfl))
  f36 := ⟨Try.f157.name, by decide, Try.func157.trans (congrArg some (by kernel_rfl))⟩
  f37 := ⟨Try.f160.name, by decide, Try.func160.trans (congrArg some (by kernel_rfl))⟩
  f38 := ⟨Try.f161.name, by decide, Try.func161.trans (congrArg some (by kernel_rfl))⟩
  f39 := ⟨Try.f162.name, by decide, Try.func162.trans (congrArg some (by kernel_rfl))⟩
  f41 := ⟨Try.f163.name, by decide, Try.func163.trans (congrArg some (by kernel_rfl))⟩
  t0 := Try.underlying0
  a0 := Try.isAgg0
  z0 := Try.sizeOf0
  v0 := Try.zeroValue0
  t3 := Try.underlying3
  a3 := Try.isAgg3
  z3 := Try.sizeOf3
  v3 := Try.zeroValue3
  t4 := Try.underlying4
  a4 := Try.isAgg4
  z4 := Try.sizeOf4
  v4 := Try.zeroValue4
  t5 := Try.underlying5
  a5 := Try.isAgg5
  z5 := Try.sizeOf5
  v5 := Try.zeroValue5
  t9 := Try.underlying9
  a9 := Try.isAgg9
  z9 := Try.sizeOf9
  v9 := Try.zeroValue9
  t26 := Try.underlying57
  a26 := Try.isAgg57
  z26 := Try.sizeOf57
  v26 := Try.zeroValue57
  t27 := Try.underlying57
  a27 := Try.isAgg57
  z27 := Try.sizeOf57
  v27 := Try.zeroValue57
  t29 := Try.underlying9
  a29 := Try.isAgg9
  z29 := Try.sizeOf9
  v29 := Try.zeroValue9
  t32 := Try.underlying189
  a32 := Try.isAgg189
  z32 := Try.sizeOf189
  v32 := Try.zeroValue189
  t35 := Try.underlying229
  a35 := Try.isAgg229
  z35 := Try.sizeOf229
  v35 := Try.zeroValue229
  t36 := Try.underlying230
  a36 := Try.isAgg230
  z36 := Try.sizeOf230
  v36 := Try.zeroValue230
  t41 := Try.underlying235
  a41 := Try.isAgg235
  z41 := Try.sizeOf235
  v41 := Try.zeroValue235
  t44 := Try.underlying238
  a44 := Try.isAgg238
  z44 := Try.sizeOf238
  v44 := Try.zeroValue238
  t46 := Try.underlying240
  a46 := Try.isAgg240
  z46 := Try.sizeOf240
  v46 := Try.zeroValue240
  t53 := Try.underlying241
  a53 := Try.isAgg241
  z53 := Try.sizeOf241
  v53 := Try.zeroValue241
  t57 := Try.underlying245
  a57 := Try.isAgg245
  z57 := Try.sizeOf245
  v57 := Try.zeroValue245
  t63 := Try.underlying247
  a63 := Try.isAgg247
  z63 := Try.sizeOf247
  v63 := Try.zeroValue247
  t64 := Try.underlying201
  a64 := Try.isAgg201
  z64 := Try.sizeOf201
  v64 := Try.zeroValue201 }
def Try.clone117_ren : Go.Shelf.Ren := ⟨fun | 5 => 117 | 7 => 139 | n => n, fun | 23 => 174 | 25 => 3 | 3 => 183 | 4 => 4 | 20 => 20 | n => n, fun | n => n⟩
theorem Try.clone117 : Go.Proofs.SlLaysW.n5 Try.prog Try.clone117_ren := {
  mixed := by kernel_rfl
  f5 := ⟨Try.f117.name, by decide, Try.func117.trans (congrArg some (by kernel_rfl))⟩
  f7 := Try.func139.trans (congrArg some (by kernel_rfl))
  t4 := Try.underlying4
  a4 := Try.isAgg4
  z4 := Try.sizeOf4
  v4 := Try.zeroValue4
  t20 := Try.underlying20
  a20 := Try.isAgg20
  z20 := Try.sizeOf20
  v20 := Try.zeroValue20
  t23 := Try.underlying174
  a23 := Try.isAgg174
  z23 := Try.sizeOf174
  v23 := Try.zeroValue174 }
end Go.Proofs
