/-
  DERIVED: THE SHELF's CONTRACTS AT THIS DUMP, IN PLAIN WORDS (tools/lay-plain.mjs out of 'YtinbbhlmhknahaaGreatDoorYtLay.lean', which tools/lay-shelf.mjs wrote): THE SAME DECLARATIONS UNDER THE SAME NAMES: 'import', 'namespace', 'open', 'def', 'theorem' AND NOTHING ELSE: no command of the shelf's: FOR A HAND-IN. Each laying: the table of numbers ('.._ren') and one theorem, a field a fact of the dump's own or the kernel's comparison; each contract: ONE APPLICATION.
-/
import Derived.Shelf.SlIter.Nil
import Derived.Shelf.SortM.Plain
import Derived.Shelf.SortM.SortNone
import Derived.Ground.GgzProg
import Derived.Ground.SlgmProg
import Derived.Test.YtinbbhlmhknahaaGreatDoorProg
set_option linter.unusedVariables false
set_option linter.unusedSimpArgs false
namespace Go.Proofs
open Go.Shelf
def Tryz.keys44_ren : Go.Shelf.Ren := ⟨fun | 7 => 44 | 10 => 92 | n => n, fun | 23 => 64 | 26 => 9 | 3 => 102 | 28 => 100 | 0 => 0 | 27 => 99 | 33 => 150 | 4 => 4 | n => n, fun | n => n⟩
theorem Tryz.keys44 : Go.Proofs.SlLaysZ.n7 Tryz.prog Tryz.keys44_ren := {
  mixed := by kernel_rfl
  f7 := ⟨Tryz.f44.name, by decide, Tryz.func44.trans (congrArg some (by kernel_rfl))⟩
  f10 := ⟨Tryz.f92.name, by decide, Tryz.func92.trans (congrArg some (by kernel_rfl))⟩
  t0 := Tryz.underlying0
  a0 := Tryz.isAgg0
  z0 := Tryz.sizeOf0
  v0 := Tryz.zeroValue0
  t4 := Tryz.underlying4
  a4 := Tryz.isAgg4
  z4 := Tryz.sizeOf4
  v4 := Tryz.zeroValue4
  t23 := Tryz.underlying64
  a23 := Tryz.isAgg64
  z23 := Tryz.sizeOf64
  v23 := Tryz.zeroValue64
  t26 := Tryz.underlying9
  a26 := Tryz.isAgg9
  z26 := Tryz.sizeOf9
  v26 := Tryz.zeroValue9
  t27 := Tryz.underlying99
  a27 := Tryz.isAgg99
  z27 := Tryz.sizeOf99
  v27 := Tryz.zeroValue99
  t28 := Tryz.underlying100
  a28 := Tryz.isAgg100
  z28 := Tryz.sizeOf100
  v28 := Tryz.zeroValue100
  t33 := Tryz.underlying150
  a33 := Tryz.isAgg150
  z33 := Tryz.sizeOf150
  v33 := Tryz.zeroValue150 }
def Tryz.sorted43_ren : Go.Shelf.Ren := ⟨fun | 6 => 43 | 8 => 90 | 9 => 91 | 11 => 158 | 13 => 160 | 12 => 159 | 23 => 221 | 24 => 222 | 14 => 212 | 15 => 213 | 16 => 214 | 17 => 215 | 18 => 216 | 19 => 217 | 20 => 218 | 21 => 219 | 22 => 220 | 25 => 255 | 26 => 256 | 27 => 257 | 28 => 258 | 29 => 259 | 30 => 260 | 31 => 283 | n => n, fun | 26 => 9 | 28 => 100 | 24 => 45 | 0 => 0 | 3 => 3 | 37 => 73 | 48 => 163 | 50 => 158 | 4 => 4 | 40 => 291 | 39 => 290 | 45 => 296 | 5 => 5 | 9 => 9 | 51 => 337 | 55 => 341 | 57 => 360 | 58 => 361 | 33 => 150 | n => n, fun | n => n⟩
theorem Tryz.sorted43 : Go.Proofs.SlLaysZ.n6 Tryz.prog Tryz.sorted43_ren := {
  mixed := by kernel_rfl
  f6 := ⟨Tryz.f43.name, by decide, Tryz.func43.trans (congrArg some (by kernel_rfl))⟩
  f8 := ⟨Tryz.f90.name, by decide, Tryz.func90.trans (congrArg some (by kernel_rfl))⟩
  f11 := ⟨Tryz.f158.name, by decide, Tryz.func158.trans (congrArg some (by kernel_rfl))⟩
  t0 := Tryz.underlying0
  a0 := Tryz.isAgg0
  z0 := Tryz.sizeOf0
  v0 := Tryz.zeroValue0
  t24 := Tryz.underlying45
  a24 := Tryz.isAgg45
  z24 := Tryz.sizeOf45
  v24 := Tryz.zeroValue45
  t26 := Tryz.underlying9
  a26 := Tryz.isAgg9
  z26 := Tryz.sizeOf9
  v26 := Tryz.zeroValue9
  t28 := Tryz.underlying100
  a28 := Tryz.isAgg100
  z28 := Tryz.sizeOf100
  v28 := Tryz.zeroValue100
  i26 := by kernel_rfl }
def Tryz.sort91_ren : Go.Shelf.Ren := ⟨fun | 6 => 91 | 8 => 160 | 9 => 159 | 19 => 221 | 20 => 222 | 21 => 212 | 22 => 213 | 23 => 214 | 24 => 215 | 25 => 216 | 26 => 217 | 27 => 218 | 28 => 219 | 29 => 220 | 36 => 255 | 31 => 256 | 32 => 257 | 37 => 258 | 38 => 259 | 39 => 260 | 41 => 283 | n => n, fun | 27 => 45 | 29 => 9 | 3 => 3 | 32 => 73 | 26 => 45 | 0 => 0 | 44 => 163 | 46 => 158 | 4 => 4 | 36 => 291 | 35 => 290 | 41 => 296 | 5 => 5 | 9 => 9 | 53 => 337 | 57 => 341 | 63 => 360 | 64 => 361 | n => n, fun | n => n⟩
theorem Tryz.sort91 : Go.Proofs.SlLaysM.n6 Tryz.prog Tryz.sort91_ren := {
  mixed := by kernel_rfl
  f6 := ⟨Tryz.f91.name, by decide, Tryz.func91.trans (congrArg some (by kernel_rfl))⟩
  f8 := Tryz.func160.trans (congrArg some (by kernel_rfl))
  f9 := ⟨Tryz.f159.name, by decide, Tryz.func159.trans (congrArg some (by kernel_rfl))⟩
  f19 := Tryz.func221.trans (congrArg some (by kernel_rfl))
  f20 := Tryz.func222.trans (congrArg some (by kernel_rfl))
  f21 := ⟨Tryz.f212.name, by decide, Tryz.func212.trans (congrArg some (by kernel_rfl))⟩
  f22 := ⟨Tryz.f213.name, by decide, Tryz.func213.trans (congrArg some (by kernel_rfl))⟩
  f23 := ⟨Tryz.f214.name, by decide, Tryz.func214.trans (congrArg some (by kernel_rfl))⟩
  f24 := ⟨Tryz.f215.name, by decide, Tryz.func215.trans (congrArg some (by kernel_rfl))⟩
  f25 := ⟨Tryz.f216.name, by decide, Tryz.func216.trans (congrArg some (by kernel_rfl))⟩
  f26 := ⟨Tryz.f217.name, by decide, Tryz.func217.trans (congrArg some (by kernel_rfl))⟩
  f27 := ⟨Tryz.f218.name, by decide, Tryz.func218.trans (congrArg some (by kernel_rfl))⟩
  f28 := ⟨Tryz.f219.name, by decide, Tryz.func219.trans (congrArg some (by kernel_rfl))⟩
  f29 := ⟨Tryz.f220.name, by decide, Tryz.func220.trans (congrArg some (by kernel_rfl))⟩
  f31 := Tryz.func256.trans (congrArg some (by kernel_rfl))
  f32 := Tryz.func257.trans (congrArg some (by kernel_rfl))
  f36 := ⟨Tryz.f255.name, by decide, Tryz.func255.trans (congrArg some (by kernel_rfl))⟩
  f37 := ⟨Tryz.f258.name, by decide, Tryz.func258.trans (congrArg some (by kernel_rfl))⟩
  f38 := ⟨Tryz.f259.name, by decide, Tryz.func259.trans (congrArg some (by kernel_rfl))⟩
  f39 := ⟨Tryz.f260.name, by decide, Tryz.func260.trans (congrArg some (by kernel_rfl))⟩
  f41 := ⟨Tryz.f283.name, by decide, Tryz.func283.trans (congrArg some (by kernel_rfl))⟩
  t0 := Tryz.underlying0
  a0 := Tryz.isAgg0
  z0 := Tryz.sizeOf0
  v0 := Tryz.zeroValue0
  t3 := Tryz.underlying3
  a3 := Tryz.isAgg3
  z3 := Tryz.sizeOf3
  v3 := Tryz.zeroValue3
  t4 := Tryz.underlying4
  a4 := Tryz.isAgg4
  z4 := Tryz.sizeOf4
  v4 := Tryz.zeroValue4
  t5 := Tryz.underlying5
  a5 := Tryz.isAgg5
  z5 := Tryz.sizeOf5
  v5 := Tryz.zeroValue5
  t9 := Tryz.underlying9
  a9 := Tryz.isAgg9
  z9 := Tryz.sizeOf9
  v9 := Tryz.zeroValue9
  t26 := Tryz.underlying45
  a26 := Tryz.isAgg45
  z26 := Tryz.sizeOf45
  v26 := Tryz.zeroValue45
  t27 := Tryz.underlying45
  a27 := Tryz.isAgg45
  z27 := Tryz.sizeOf45
  v27 := Tryz.zeroValue45
  t29 := Tryz.underlying9
  a29 := Tryz.isAgg9
  z29 := Tryz.sizeOf9
  v29 := Tryz.zeroValue9
  t32 := Tryz.underlying73
  a32 := Tryz.isAgg73
  z32 := Tryz.sizeOf73
  v32 := Tryz.zeroValue73
  t35 := Tryz.underlying290
  a35 := Tryz.isAgg290
  z35 := Tryz.sizeOf290
  v35 := Tryz.zeroValue290
  t36 := Tryz.underlying291
  a36 := Tryz.isAgg291
  z36 := Tryz.sizeOf291
  v36 := Tryz.zeroValue291
  t41 := Tryz.underlying296
  a41 := Tryz.isAgg296
  z41 := Tryz.sizeOf296
  v41 := Tryz.zeroValue296
  t44 := Tryz.underlying163
  a44 := Tryz.isAgg163
  z44 := Tryz.sizeOf163
  v44 := Tryz.zeroValue163
  t46 := Tryz.underlying158
  a46 := Tryz.isAgg158
  z46 := Tryz.sizeOf158
  v46 := Tryz.zeroValue158
  t53 := Tryz.underlying337
  a53 := Tryz.isAgg337
  z53 := Tryz.sizeOf337
  v53 := Tryz.zeroValue337
  t57 := Tryz.underlying341
  a57 := Tryz.isAgg341
  z57 := Tryz.sizeOf341
  v57 := Tryz.zeroValue341
  t63 := Tryz.underlying360
  a63 := Tryz.isAgg360
  z63 := Tryz.sizeOf360
  v63 := Tryz.zeroValue360
  t64 := Tryz.underlying361
  a64 := Tryz.isAgg361
  z64 := Tryz.sizeOf361
  v64 := Tryz.zeroValue361 }
end Go.Proofs
