/-
  The library's string contracts at this program: TrimSuffix, Count, Cut, Split.
-/
import Derived.Shelf.SlGeneric
import Derived.Shelf.SlIterI.Nil
import Derived.Shelf.SlIterI.Sorted
import Derived.Shelf.SlIter.Nil
import Derived.Shelf.SortM.Plain
import Derived.Shelf.SortM.SortNone
import Derived.Shelf.Sort.Plain
import Derived.Shelf.Slices.In.SortNone
import Derived.Shelf.Strings.Builder1
import Derived.Shelf.Strings.Builder2Cap
import Derived.Shelf.Strings.Prefix
import Derived.Shelf.Strings.Cut
import Derived.Shelf.Strings.Count
import Derived.Shelf.Strings.Split
import Derived.Ground.GgzProg
import Derived.Ground.SlgmProg
import Derived.Ground.NamesProg
import Derived.Ground.Names2Prog
import Derived.Test.YtnbighenjhpleaaGreatDoorProg
set_option linter.unusedVariables false
set_option linter.unusedSimpArgs false
section
namespace Go.Proofs
open Go.Shelf
def Tryz.keys149_ren : Go.Shelf.Ren := ⟨fun | 7 => 149 | 10 => 213 | n => n, fun | 23 => 137 | 26 => 3 | 3 => 23 | 28 => 229 | 0 => 0 | 27 => 228 | 33 => 277 | 4 => 4 | n => n, fun | n => n⟩
theorem Tryz.keys149 : Go.Proofs.SlLaysZI.n7 Tryz.prog Tryz.keys149_ren := {
  mixed := by kernel_rfl
  f7 := ⟨Tryz.f149.name, by decide, Tryz.func149.trans (congrArg some (by kernel_rfl))⟩
  f10 := ⟨Tryz.f213.name, by decide, Tryz.func213.trans (congrArg some (by kernel_rfl))⟩
  t0 := Tryz.underlying0
  a0 := Tryz.isAgg0
  z0 := Tryz.sizeOf0
  v0 := Tryz.zeroValue0
  t4 := Tryz.underlying4
  a4 := Tryz.isAgg4
  z4 := Tryz.sizeOf4
  v4 := Tryz.zeroValue4
  t23 := Tryz.underlying137
  a23 := Tryz.isAgg137
  z23 := Tryz.sizeOf137
  v23 := Tryz.zeroValue137
  t26 := Tryz.underlying3
  a26 := Tryz.isAgg3
  z26 := Tryz.sizeOf3
  v26 := Tryz.zeroValue3
  t27 := Tryz.underlying228
  a27 := Tryz.isAgg228
  z27 := Tryz.sizeOf228
  v27 := Tryz.zeroValue228
  t28 := Tryz.underlying229
  a28 := Tryz.isAgg229
  z28 := Tryz.sizeOf229
  v28 := Tryz.zeroValue229
  t33 := Tryz.underlying277
  a33 := Tryz.isAgg277
  z33 := Tryz.sizeOf277
  v33 := Tryz.zeroValue277 }
def Tryz.sorted148_ren : Go.Shelf.Ren := ⟨fun | 6 => 148 | 8 => 211 | 9 => 212 | 11 => 306 | 13 => 198 | 12 => 307 | 23 => 290 | 24 => 168 | 14 => 359 | 15 => 360 | 16 => 361 | 17 => 362 | 18 => 363 | 19 => 364 | 20 => 365 | 21 => 366 | 22 => 367 | 25 => 458 | 26 => 345 | 27 => 346 | 28 => 459 | 29 => 460 | 30 => 461 | 31 => 545 | n => n, fun | 26 => 3 | 28 => 229 | 24 => 48 | 0 => 0 | 3 => 3 | 37 => 83 | 48 => 184 | 50 => 117 | 4 => 4 | 40 => 404 | 39 => 403 | 45 => 79 | 5 => 5 | 9 => 9 | 51 => 480 | 55 => 325 | 57 => 566 | 58 => 567 | 33 => 277 | n => n, fun | n => n⟩
theorem Tryz.sorted148 : Go.Proofs.SlLaysZI.n6 Tryz.prog Tryz.sorted148_ren := {
  mixed := by kernel_rfl
  f6 := ⟨Tryz.f148.name, by decide, Tryz.func148.trans (congrArg some (by kernel_rfl))⟩
  f8 := ⟨Tryz.f211.name, by decide, Tryz.func211.trans (congrArg some (by kernel_rfl))⟩
  f11 := ⟨Tryz.f306.name, by decide, Tryz.func306.trans (congrArg some (by kernel_rfl))⟩
  t0 := Tryz.underlying0
  a0 := Tryz.isAgg0
  z0 := Tryz.sizeOf0
  v0 := Tryz.zeroValue0
  t24 := Tryz.underlying48
  a24 := Tryz.isAgg48
  z24 := Tryz.sizeOf48
  v24 := Tryz.zeroValue48
  t26 := Tryz.underlying3
  a26 := Tryz.isAgg3
  z26 := Tryz.sizeOf3
  v26 := Tryz.zeroValue3
  t28 := Tryz.underlying229
  a28 := Tryz.isAgg229
  z28 := Tryz.sizeOf229
  v28 := Tryz.zeroValue229
  i26 := by kernel_rfl }
def Tryz.lays189_ren : Go.Shelf.Ren := ⟨fun | 189 => 212 | 125 => 198 | 257 => 307 | 128 => 290 | 129 => 168 | 294 => 359 | 295 => 360 | 296 => 361 | 297 => 362 | 298 => 363 | 299 => 364 | 216 => 365 | 300 => 366 | 301 => 367 | 328 => 458 | 329 => 345 | 330 => 346 | 331 => 459 | 332 => 460 | 215 => 461 | 343 => 545 | n => n, fun | 28 => 48 | 3 => 3 | 46 => 83 | 0 => 0 | 51 => 184 | 53 => 117 | 4 => 4 | 183 => 404 | 182 => 403 | 131 => 79 | 5 => 5 | 9 => 9 | 218 => 480 | 222 => 325 | 228 => 566 | 229 => 567 | n => n, fun | n => n⟩
theorem Tryz.lays189 : Go.Proofs.Lays.n189 Tryz.prog Tryz.lays189_ren := {
  mixed := by kernel_rfl
  f125 := Tryz.func198.trans (congrArg some (by kernel_rfl))
  f128 := Tryz.func290.trans (congrArg some (by kernel_rfl))
  f129 := Tryz.func168.trans (congrArg some (by kernel_rfl))
  f189 := Tryz.func212.trans (congrArg some (by kernel_rfl))
  f215 := Tryz.func461.trans (congrArg some (by kernel_rfl))
  f216 := Tryz.func365.trans (congrArg some (by kernel_rfl))
  f257 := Tryz.func307.trans (congrArg some (by kernel_rfl))
  f294 := Tryz.func359.trans (congrArg some (by kernel_rfl))
  f295 := Tryz.func360.trans (congrArg some (by kernel_rfl))
  f296 := Tryz.func361.trans (congrArg some (by kernel_rfl))
  f297 := Tryz.func362.trans (congrArg some (by kernel_rfl))
  f298 := Tryz.func363.trans (congrArg some (by kernel_rfl))
  f299 := Tryz.func364.trans (congrArg some (by kernel_rfl))
  f300 := Tryz.func366.trans (congrArg some (by kernel_rfl))
  f301 := Tryz.func367.trans (congrArg some (by kernel_rfl))
  f328 := Tryz.func458.trans (congrArg some (by kernel_rfl))
  f329 := Tryz.func345.trans (congrArg some (by kernel_rfl))
  f330 := Tryz.func346.trans (congrArg some (by kernel_rfl))
  f331 := Tryz.func459.trans (congrArg some (by kernel_rfl))
  f332 := Tryz.func460.trans (congrArg some (by kernel_rfl))
  f343 := Tryz.func545.trans (congrArg some (by kernel_rfl))
  t0 := Tryz.underlying0
  a0 := Tryz.isAgg0
  z0 := Tryz.sizeOf0
  v0 := Tryz.zeroValue0
  t3 := Tryz.underlying3
  a3 := Tryz.isAgg3
  z3 := Tryz.sizeOf3
  v3 := Tryz.zeroValue3
  t4 := Tryz.underlying4
  a4 := Tryz.isAgg4
  z4 := Tryz.sizeOf4
  v4 := Tryz.zeroValue4
  t5 := Tryz.underlying5
  a5 := Tryz.isAgg5
  z5 := Tryz.sizeOf5
  v5 := Tryz.zeroValue5
  t9 := Tryz.underlying9
  a9 := Tryz.isAgg9
  z9 := Tryz.sizeOf9
  v9 := Tryz.zeroValue9
  t28 := Tryz.underlying48
  a28 := Tryz.isAgg48
  z28 := Tryz.sizeOf48
  v28 := Tryz.zeroValue48
  t46 := Tryz.underlying83
  a46 := Tryz.isAgg83
  z46 := Tryz.sizeOf83
  v46 := Tryz.zeroValue83
  t51 := Tryz.underlying184
  a51 := Tryz.isAgg184
  z51 := Tryz.sizeOf184
  v51 := Tryz.zeroValue184
  t53 := Tryz.underlying117
  a53 := Tryz.isAgg117
  z53 := Tryz.sizeOf117
  v53 := Tryz.zeroValue117
  t131 := Tryz.underlying79
  a131 := Tryz.isAgg79
  z131 := Tryz.sizeOf79
  v131 := Tryz.zeroValue79
  t182 := Tryz.underlying403
  a182 := Tryz.isAgg403
  z182 := Tryz.sizeOf403
  v182 := Tryz.zeroValue403
  t183 := Tryz.underlying404
  a183 := Tryz.isAgg404
  z183 := Tryz.sizeOf404
  v183 := Tryz.zeroValue404
  t218 := Tryz.underlying480
  a218 := Tryz.isAgg480
  z218 := Tryz.sizeOf480
  v218 := Tryz.zeroValue480
  t222 := Tryz.underlying325
  a222 := Tryz.isAgg325
  z222 := Tryz.sizeOf325
  v222 := Tryz.zeroValue325
  t228 := Tryz.underlying566
  a228 := Tryz.isAgg566
  z228 := Tryz.sizeOf566
  v228 := Tryz.zeroValue566
  t229 := Tryz.underlying567
  a229 := Tryz.isAgg567
  z229 := Tryz.sizeOf567
  v229 := Tryz.zeroValue567 }
def Tryz.keys233_ren : Go.Shelf.Ren := ⟨fun | 7 => 233 | 10 => 316 | n => n, fun | 23 => 245 | 26 => 9 | 3 => 211 | 28 => 350 | 0 => 0 | 27 => 349 | 33 => 33 | 4 => 4 | n => n, fun | n => n⟩
theorem Tryz.keys233 : Go.Proofs.SlLaysZ.n7 Tryz.prog Tryz.keys233_ren := {
  mixed := by kernel_rfl
  f7 := ⟨Tryz.f233.name, by decide, Tryz.func233.trans (congrArg some (by kernel_rfl))⟩
  f10 := ⟨Tryz.f316.name, by decide, Tryz.func316.trans (congrArg some (by kernel_rfl))⟩
  t0 := Tryz.underlying0
  a0 := Tryz.isAgg0
  z0 := Tryz.sizeOf0
  v0 := Tryz.zeroValue0
  t4 := Tryz.underlying4
  a4 := Tryz.isAgg4
  z4 := Tryz.sizeOf4
  v4 := Tryz.zeroValue4
  t23 := Tryz.underlying245
  a23 := Tryz.isAgg245
  z23 := Tryz.sizeOf245
  v23 := Tryz.zeroValue245
  t26 := Tryz.underlying9
  a26 := Tryz.isAgg9
  z26 := Tryz.sizeOf9
  v26 := Tryz.zeroValue9
  t27 := Tryz.underlying349
  a27 := Tryz.isAgg349
  z27 := Tryz.sizeOf349
  v27 := Tryz.zeroValue349
  t28 := Tryz.underlying350
  a28 := Tryz.isAgg350
  z28 := Tryz.sizeOf350
  v28 := Tryz.zeroValue350
  t33 := Tryz.underlying33
  a33 := Tryz.isAgg33
  z33 := Tryz.sizeOf33
  v33 := Tryz.zeroValue33 }
def Tryz.sorted232_ren : Go.Shelf.Ren := ⟨fun | 6 => 232 | 8 => 314 | 9 => 315 | 11 => 369 | 13 => 198 | 12 => 370 | 23 => 290 | 24 => 168 | 14 => 462 | 15 => 463 | 16 => 464 | 17 => 465 | 18 => 466 | 19 => 467 | 20 => 468 | 21 => 469 | 22 => 470 | 25 => 546 | 26 => 345 | 27 => 346 | 28 => 547 | 29 => 548 | 30 => 549 | 31 => 595 | n => n, fun | 26 => 9 | 28 => 350 | 24 => 45 | 0 => 0 | 3 => 3 | 37 => 83 | 48 => 184 | 50 => 117 | 4 => 4 | 40 => 404 | 39 => 403 | 45 => 79 | 5 => 5 | 9 => 9 | 51 => 480 | 55 => 325 | 57 => 566 | 58 => 567 | 33 => 33 | n => n, fun | n => n⟩
theorem Tryz.sorted232 : Go.Proofs.SlLaysZ.n6 Tryz.prog Tryz.sorted232_ren := {
  mixed := by kernel_rfl
  f6 := ⟨Tryz.f232.name, by decide, Tryz.func232.trans (congrArg some (by kernel_rfl))⟩
  f8 := ⟨Tryz.f314.name, by decide, Tryz.func314.trans (congrArg some (by kernel_rfl))⟩
  f11 := ⟨Tryz.f369.name, by decide, Tryz.func369.trans (congrArg some (by kernel_rfl))⟩
  t0 := Tryz.underlying0
  a0 := Tryz.isAgg0
  z0 := Tryz.sizeOf0
  v0 := Tryz.zeroValue0
  t24 := Tryz.underlying45
  a24 := Tryz.isAgg45
  z24 := Tryz.sizeOf45
  v24 := Tryz.zeroValue45
  t26 := Tryz.underlying9
  a26 := Tryz.isAgg9
  z26 := Tryz.sizeOf9
  v26 := Tryz.zeroValue9
  t28 := Tryz.underlying350
  a28 := Tryz.isAgg350
  z28 := Tryz.sizeOf350
  v28 := Tryz.zeroValue350
  i26 := by kernel_rfl }
def Tryz.sort315_ren : Go.Shelf.Ren := ⟨fun | 6 => 315 | 8 => 198 | 9 => 370 | 19 => 290 | 20 => 168 | 21 => 462 | 22 => 463 | 23 => 464 | 24 => 465 | 25 => 466 | 26 => 467 | 27 => 468 | 28 => 469 | 29 => 470 | 36 => 546 | 31 => 345 | 32 => 346 | 37 => 547 | 38 => 548 | 39 => 549 | 41 => 595 | n => n, fun | 27 => 45 | 29 => 9 | 3 => 3 | 32 => 83 | 26 => 45 | 0 => 0 | 44 => 184 | 46 => 117 | 4 => 4 | 36 => 404 | 35 => 403 | 41 => 79 | 5 => 5 | 9 => 9 | 53 => 480 | 57 => 325 | 63 => 566 | 64 => 567 | n => n, fun | n => n⟩
theorem Tryz.sort315 : Go.Proofs.SlLaysM.n6 Tryz.prog Tryz.sort315_ren := {
  mixed := by kernel_rfl
  f6 := ⟨Tryz.f315.name, by decide, Tryz.func315.trans (congrArg some (by kernel_rfl))⟩
  f8 := Tryz.func198.trans (congrArg some (by kernel_rfl))
  f9 := ⟨Tryz.f370.name, by decide, Tryz.func370.trans (congrArg some (by kernel_rfl))⟩
  f19 := Tryz.func290.trans (congrArg some (by kernel_rfl))
  f20 := Tryz.func168.trans (congrArg some (by kernel_rfl))
  f21 := ⟨Tryz.f462.name, by decide, Tryz.func462.trans (congrArg some (by kernel_rfl))⟩
  f22 := ⟨Tryz.f463.name, by decide, Tryz.func463.trans (congrArg some (by kernel_rfl))⟩
  f23 := ⟨Tryz.f464.name, by decide, Tryz.func464.trans (congrArg some (by kernel_rfl))⟩
  f24 := ⟨Tryz.f465.name, by decide, Tryz.func465.trans (congrArg some (by kernel_rfl))⟩
  f25 := ⟨Tryz.f466.name, by decide, Tryz.func466.trans (congrArg some (by kernel_rfl))⟩
  f26 := ⟨Tryz.f467.name, by decide, Tryz.func467.trans (congrArg some (by kernel_rfl))⟩
  f27 := ⟨Tryz.f468.name, by decide, Tryz.func468.trans (congrArg some (by kernel_rfl))⟩
  f28 := ⟨Tryz.f469.name, by decide, Tryz.func469.trans (congrArg some (by kernel_rfl))⟩
  f29 := ⟨Tryz.f470.name, by decide, Tryz.func470.trans (congrArg some (by kernel_rfl))⟩
  f31 := Tryz.func345.trans (congrArg some (by kernel_rfl))
  f32 := Tryz.func346.trans (congrArg some (by kernel_rfl))
  f36 := ⟨Tryz.f546.name, by decide, Tryz.func546.trans (congrArg some (by kernel_rfl))⟩
  f37 := ⟨Tryz.f547.name, by decide, Tryz.func547.trans (congrArg some (by kernel_rfl))⟩
  f38 := ⟨Tryz.f548.name, by decide, Tryz.func548.trans (congrArg some (by kernel_rfl))⟩
  f39 := ⟨Tryz.f549.name, by decide, Tryz.func549.trans (congrArg some (by kernel_rfl))⟩
  f41 := ⟨Tryz.f595.name, by decide, Tryz.func595.trans (congrArg some (by kernel_rfl))⟩
  t0 := Tryz.underlying0
  a0 := Tryz.isAgg0
  z0 := Tryz.sizeOf0
  v0 := Tryz.zeroValue0
  t3 := Tryz.underlying3
  a3 := Tryz.isAgg3
  z3 := Tryz.sizeOf3
  v3 := Tryz.zeroValue3
  t4 := Tryz.underlying4
  a4 := Tryz.isAgg4
  z4 := Tryz.sizeOf4
  v4 := Tryz.zeroValue4
  t5 := Tryz.underlying5
  a5 := Tryz.isAgg5
  z5 := Tryz.sizeOf5
  v5 := Tryz.zeroValue5
  t9 := Tryz.underlying9
  a9 := Tryz.isAgg9
  z9 := Tryz.sizeOf9
  v9 := Tryz.zeroValue9
  t26 := Tryz.underlying45
  a26 := Tryz.isAgg45
  z26 := Tryz.sizeOf45
  v26 := Tryz.zeroValue45
  t27 := Tryz.underlying45
  a27 := Tryz.isAgg45
  z27 := Tryz.sizeOf45
  v27 := Tryz.zeroValue45
  t29 := Tryz.underlying9
  a29 := Tryz.isAgg9
  z29 := Tryz.sizeOf9
  v29 := Tryz.zeroValue9
  t32 := Tryz.underlying83
  a32 := Tryz.isAgg83
  z32 := Tryz.sizeOf83
  v32 := Tryz.zeroValue83
  t35 := Tryz.underlying403
  a35 := Tryz.isAgg403
  z35 := Tryz.sizeOf403
  v35 := Tryz.zeroValue403
  t36 := Tryz.underlying404
  a36 := Tryz.isAgg404
  z36 := Tryz.sizeOf404
  v36 := Tryz.zeroValue404
  t41 := Tryz.underlying79
  a41 := Tryz.isAgg79
  z41 := Tryz.sizeOf79
  v41 := Tryz.zeroValue79
  t44 := Tryz.underlying184
  a44 := Tryz.isAgg184
  z44 := Tryz.sizeOf184
  v44 := Tryz.zeroValue184
  t46 := Tryz.underlying117
  a46 := Tryz.isAgg117
  z46 := Tryz.sizeOf117
  v46 := Tryz.zeroValue117
  t53 := Tryz.underlying480
  a53 := Tryz.isAgg480
  z53 := Tryz.sizeOf480
  v53 := Tryz.zeroValue480
  t57 := Tryz.underlying325
  a57 := Tryz.isAgg325
  z57 := Tryz.sizeOf325
  v57 := Tryz.zeroValue325
  t63 := Tryz.underlying566
  a63 := Tryz.isAgg566
  z63 := Tryz.sizeOf566
  v63 := Tryz.zeroValue566
  t64 := Tryz.underlying567
  a64 := Tryz.isAgg567
  z64 := Tryz.sizeOf567
  v64 := Tryz.zeroValue567 }
def Tryz.lays169_ren : Go.Shelf.Ren := ⟨fun | 169 => 32 | n => n, fun | 70 => 55 | 9 => 9 | 0 => 0 | 72 => 57 | 37 => 23 | 127 => 93 | 3 => 3 | 5 => 5 | n => n, fun | n => n⟩
theorem Tryz.lays169 : Go.Proofs.Lays.n169 Tryz.prog Tryz.lays169_ren := {
  mixed := by kernel_rfl
  f169 := Tryz.func32.trans (congrArg some (by kernel_rfl))
  t0 := Tryz.underlying0
  a0 := Tryz.isAgg0
  z0 := Tryz.sizeOf0
  v0 := Tryz.zeroValue0
  t3 := Tryz.underlying3
  a3 := Tryz.isAgg3
  z3 := Tryz.sizeOf3
  v3 := Tryz.zeroValue3
  t9 := Tryz.underlying9
  a9 := Tryz.isAgg9
  z9 := Tryz.sizeOf9
  v9 := Tryz.zeroValue9
  t37 := Tryz.underlying23
  a37 := Tryz.isAgg23
  z37 := Tryz.sizeOf23
  v37 := Tryz.zeroValue23
  t70 := Tryz.underlying55
  a70 := Tryz.isAgg55
  z70 := Tryz.sizeOf55
  v70 := Tryz.zeroValue55
  t72 := Tryz.underlying57
  a72 := Tryz.isAgg57
  z72 := Tryz.sizeOf57
  v72 := Tryz.zeroValue57
  t127 := Tryz.underlying93
  a127 := Tryz.isAgg93
  z127 := Tryz.sizeOf93
  v127 := Tryz.zeroValue93 }
def Tryz.lays241_ren : Go.Shelf.Ren := ⟨fun | 241 => 84 | 277 => 114 | n => n, fun | 70 => 55 | 3 => 3 | 0 => 0 | 72 => 57 | 37 => 23 | 5 => 5 | n => n, fun | n => n⟩
theorem Tryz.lays241 : Go.Proofs.Lays.n241 Tryz.prog Tryz.lays241_ren := {
  mixed := by kernel_rfl
  f241 := Tryz.func84.trans (congrArg some (by kernel_rfl))
  f277 := Tryz.func114.trans (congrArg some (by kernel_rfl))
  t0 := Tryz.underlying0
  a0 := Tryz.isAgg0
  z0 := Tryz.sizeOf0
  v0 := Tryz.zeroValue0
  t3 := Tryz.underlying3
  a3 := Tryz.isAgg3
  z3 := Tryz.sizeOf3
  v3 := Tryz.zeroValue3
  t37 := Tryz.underlying23
  a37 := Tryz.isAgg23
  z37 := Tryz.sizeOf23
  v37 := Tryz.zeroValue23
  t70 := Tryz.underlying55
  a70 := Tryz.isAgg55
  z70 := Tryz.sizeOf55
  v70 := Tryz.zeroValue55
  t72 := Tryz.underlying57
  a72 := Tryz.isAgg57
  z72 := Tryz.sizeOf57
  v72 := Tryz.zeroValue57 }
def Tryz.lays102_ren : Go.Shelf.Ren := ⟨fun | 102 => 27 | 209 => 48 | 207 => 63 | n => n, fun | 9 => 9 | 4 => 4 | 3 => 3 | n => n, fun | n => n⟩
theorem Tryz.lays102 : Go.Proofs.Lays.n102 Tryz.prog Tryz.lays102_ren := {
  mixed := by kernel_rfl
  f102 := Tryz.func27.trans (congrArg some (by kernel_rfl))
  f207 := Tryz.func63.trans (congrArg some (by kernel_rfl))
  f209 := Tryz.func48.trans (congrArg some (by kernel_rfl))
  t3 := Tryz.underlying3
  a3 := Tryz.isAgg3
  z3 := Tryz.sizeOf3
  v3 := Tryz.zeroValue3
  t4 := Tryz.underlying4
  a4 := Tryz.isAgg4
  z4 := Tryz.sizeOf4
  v4 := Tryz.zeroValue4
  t9 := Tryz.underlying9
  a9 := Tryz.isAgg9
  z9 := Tryz.sizeOf9
  v9 := Tryz.zeroValue9 }
def Tryz.lays145_ren : Go.Shelf.Ren := ⟨fun | 145 => 50 | 220 => 64 | 219 => 62 | 217 => 86 | 225 => 87 | 224 => 88 | 267 => 89 | 266 => 119 | 314 => 120 | n => n, fun | 9 => 9 | 4 => 4 | 59 => 87 | 3 => 3 | 5 => 5 | 46 => 83 | 146 => 185 | 51 => 184 | n => n, fun | 1 => 0 | n => n⟩
theorem Tryz.lays145 : Go.Proofs.Lays.n145 Tryz.prog Tryz.lays145_ren := {
  mixed := by kernel_rfl
  f145 := Tryz.func50.trans (congrArg some (by kernel_rfl))
  f217 := Tryz.func86.trans (congrArg some (by kernel_rfl))
  f219 := Tryz.func62.trans (congrArg some (by kernel_rfl))
  f220 := Tryz.func64.trans (congrArg some (by kernel_rfl))
  f224 := Tryz.func88.trans (congrArg some (by kernel_rfl))
  f225 := Tryz.func87.trans (congrArg some (by kernel_rfl))
  f266 := Tryz.func119.trans (congrArg some (by kernel_rfl))
  f267 := Tryz.func89.trans (congrArg some (by kernel_rfl))
  f314 := Tryz.func120.trans (congrArg some (by kernel_rfl))
  t3 := Tryz.underlying3
  a3 := Tryz.isAgg3
  z3 := Tryz.sizeOf3
  v3 := Tryz.zeroValue3
  t4 := Tryz.underlying4
  a4 := Tryz.isAgg4
  z4 := Tryz.sizeOf4
  v4 := Tryz.zeroValue4
  t5 := Tryz.underlying5
  a5 := Tryz.isAgg5
  z5 := Tryz.sizeOf5
  v5 := Tryz.zeroValue5
  t9 := Tryz.underlying9
  a9 := Tryz.isAgg9
  z9 := Tryz.sizeOf9
  v9 := Tryz.zeroValue9
  t46 := Tryz.underlying83
  a46 := Tryz.isAgg83
  z46 := Tryz.sizeOf83
  v46 := Tryz.zeroValue83
  t51 := Tryz.underlying184
  a51 := Tryz.isAgg184
  z51 := Tryz.sizeOf184
  v51 := Tryz.zeroValue184
  t59 := Tryz.underlying87
  a59 := Tryz.isAgg87
  z59 := Tryz.sizeOf87
  v59 := Tryz.zeroValue87
  t146 := Tryz.underlying185
  a146 := Tryz.isAgg185
  z146 := Tryz.sizeOf185
  v146 := Tryz.zeroValue185
  g1 := by kernel_rfl }
def Tryz.lays138_ren : Go.Shelf.Ren := ⟨fun | 138 => 26 | 195 => 45 | 218 => 46 | 143 => 47 | 219 => 62 | 217 => 86 | 225 => 87 | 224 => 88 | 267 => 89 | 266 => 119 | 314 => 120 | n => n, fun | 9 => 9 | 3 => 3 | 4 => 4 | 5 => 5 | 0 => 0 | 46 => 83 | 146 => 185 | 51 => 184 | n => n, fun | 1 => 0 | n => n⟩
theorem Tryz.lays138 : Go.Proofs.Lays.n138 Tryz.prog Tryz.lays138_ren := {
  mixed := by kernel_rfl
  f138 := Tryz.func26.trans (congrArg some (by kernel_rfl))
  f143 := Tryz.func47.trans (congrArg some (by kernel_rfl))
  f195 := Tryz.func45.trans (congrArg some (by kernel_rfl))
  f217 := Tryz.func86.trans (congrArg some (by kernel_rfl))
  f218 := Tryz.func46.trans (congrArg some (by kernel_rfl))
  f219 := Tryz.func62.trans (congrArg some (by kernel_rfl))
  f224 := Tryz.func88.trans (congrArg some (by kernel_rfl))
  f225 := Tryz.func87.trans (congrArg some (by kernel_rfl))
  f266 := Tryz.func119.trans (congrArg some (by kernel_rfl))
  f267 := Tryz.func89.trans (congrArg some (by kernel_rfl))
  f314 := Tryz.func120.trans (congrArg some (by kernel_rfl))
  t0 := Tryz.underlying0
  a0 := Tryz.isAgg0
  z0 := Tryz.sizeOf0
  v0 := Tryz.zeroValue0
  t3 := Tryz.underlying3
  a3 := Tryz.isAgg3
  z3 := Tryz.sizeOf3
  v3 := Tryz.zeroValue3
  t4 := Tryz.underlying4
  a4 := Tryz.isAgg4
  z4 := Tryz.sizeOf4
  v4 := Tryz.zeroValue4
  t5 := Tryz.underlying5
  a5 := Tryz.isAgg5
  z5 := Tryz.sizeOf5
  v5 := Tryz.zeroValue5
  t9 := Tryz.underlying9
  a9 := Tryz.isAgg9
  z9 := Tryz.sizeOf9
  v9 := Tryz.zeroValue9
  t46 := Tryz.underlying83
  a46 := Tryz.isAgg83
  z46 := Tryz.sizeOf83
  v46 := Tryz.zeroValue83
  t51 := Tryz.underlying184
  a51 := Tryz.isAgg184
  z51 := Tryz.sizeOf184
  v51 := Tryz.zeroValue184
  t146 := Tryz.underlying185
  a146 := Tryz.isAgg185
  z146 := Tryz.sizeOf185
  v146 := Tryz.zeroValue185
  g1 := by kernel_rfl }
def Tryz.lays146_ren : Go.Shelf.Ren := ⟨fun | 146 => 18 | 221 => 37 | 268 => 57 | 138 => 26 | 143 => 47 | 195 => 45 | 197 => 82 | 218 => 46 | 219 => 62 | 260 => 113 | 217 => 86 | 225 => 87 | 224 => 88 | 267 => 89 | 266 => 119 | 314 => 120 | n => n, fun | 9 => 9 | 31 => 45 | 3 => 3 | 4 => 4 | 0 => 0 | 105 => 132 | 21 => 21 | 5 => 5 | 46 => 83 | 119 => 270 | 139 => 273 | 138 => 272 | 146 => 185 | 51 => 184 | n => n, fun | 1 => 0 | 3 => 1 | 4 => 2 | n => n⟩
theorem Tryz.lays146 : Go.Proofs.Lays.n146 Tryz.prog Tryz.lays146_ren := {
  mixed := by kernel_rfl
  f138 := Tryz.func26.trans (congrArg some (by kernel_rfl))
  f143 := Tryz.func47.trans (congrArg some (by kernel_rfl))
  f146 := Tryz.func18.trans (congrArg some (by kernel_rfl))
  f195 := Tryz.func45.trans (congrArg some (by kernel_rfl))
  f197 := Tryz.func82.trans (congrArg some (by kernel_rfl))
  f217 := Tryz.func86.trans (congrArg some (by kernel_rfl))
  f218 := Tryz.func46.trans (congrArg some (by kernel_rfl))
  f219 := Tryz.func62.trans (congrArg some (by kernel_rfl))
  f221 := Tryz.func37.trans (congrArg some (by kernel_rfl))
  f224 := Tryz.func88.trans (congrArg some (by kernel_rfl))
  f225 := Tryz.func87.trans (congrArg some (by kernel_rfl))
  f260 := Tryz.func113.trans (congrArg some (by kernel_rfl))
  f266 := Tryz.func119.trans (congrArg some (by kernel_rfl))
  f267 := Tryz.func89.trans (congrArg some (by kernel_rfl))
  f268 := Tryz.func57.trans (congrArg some (by kernel_rfl))
  f314 := Tryz.func120.trans (congrArg some (by kernel_rfl))
  t0 := Tryz.underlying0
  a0 := Tryz.isAgg0
  z0 := Tryz.sizeOf0
  v0 := Tryz.zeroValue0
  t3 := Tryz.underlying3
  a3 := Tryz.isAgg3
  z3 := Tryz.sizeOf3
  v3 := Tryz.zeroValue3
  t4 := Tryz.underlying4
  a4 := Tryz.isAgg4
  z4 := Tryz.sizeOf4
  v4 := Tryz.zeroValue4
  t5 := Tryz.underlying5
  a5 := Tryz.isAgg5
  z5 := Tryz.sizeOf5
  v5 := Tryz.zeroValue5
  t9 := Tryz.underlying9
  a9 := Tryz.isAgg9
  z9 := Tryz.sizeOf9
  v9 := Tryz.zeroValue9
  t21 := Tryz.underlying21
  a21 := Tryz.isAgg21
  z21 := Tryz.sizeOf21
  v21 := Tryz.zeroValue21
  t31 := Tryz.underlying45
  a31 := Tryz.isAgg45
  z31 := Tryz.sizeOf45
  v31 := Tryz.zeroValue45
  t46 := Tryz.underlying83
  a46 := Tryz.isAgg83
  z46 := Tryz.sizeOf83
  v46 := Tryz.zeroValue83
  t51 := Tryz.underlying184
  a51 := Tryz.isAgg184
  z51 := Tryz.sizeOf184
  v51 := Tryz.zeroValue184
  t105 := Tryz.underlying132
  a105 := Tryz.isAgg132
  z105 := Tryz.sizeOf132
  v105 := Tryz.zeroValue132
  t119 := Tryz.underlying270
  a119 := Tryz.isAgg270
  z119 := Tryz.sizeOf270
  t138 := Tryz.underlying272
  a138 := Tryz.isAgg272
  z138 := Tryz.sizeOf272
  v138 := Tryz.zeroValue272
  t139 := Tryz.underlying273
  a139 := Tryz.isAgg273
  z139 := Tryz.sizeOf273
  v139 := Tryz.zeroValue273
  t146 := Tryz.underlying185
  a146 := Tryz.isAgg185
  z146 := Tryz.sizeOf185
  v146 := Tryz.zeroValue185
  g1 := by kernel_rfl
  g3 := by kernel_rfl
  g4 := by kernel_rfl }
end Go.Proofs
end
section
namespace Go.Proofs
open Go.RowKit Go.Maps Go.Sort Go.Shelf


theorem Tryz.sorts148 (m : Nat) : AnyZI.SortsIn Tryz.prog Tryz.sorted148_ren Fence.wide m :=
  ⟨fun blk off cap ss W hH hblk hsz => callsIn_wide.2 (Any.slices_Sort_int Tryz.lays189 blk off cap ss W hH hblk hsz),
   fun p cap W => callsIn_wide.2 (Any.slices_Sort_int_none Tryz.lays189 p cap W)⟩
end Go.Proofs
end
section
namespace Go.Proofs
open Go.RowKit Go.Maps Go.Sort Go.Shelf

/-- slices.Sort's two contracts at this dump, at the fence that asks nothing. -/
theorem Tryz.sorts232 (m : Nat) : AnyZ.SortsIn Tryz.prog Tryz.sorted232_ren Fence.wide m :=
  ⟨fun blk off cap ss W hH hblk hsz => callsIn_wide.2 (AnyM.slices_Sort_string Tryz.sort315 blk off cap ss W hH hblk hsz),
   fun p cap W => callsIn_wide.2 (AnyM.slices_Sort_string_none Tryz.sort315 p cap W)⟩
end Go.Proofs
end
section
namespace Go.Proofs
open Go.Shelf
theorem Tryz.Builder_Extra_169 : Builder.Extra Tryz.prog Tryz.lays169_ren where
  sizeBuilder := by kernel_rfl
  liesBuilder := by kernel_rfl
  t5 := Tryz.underlying5
  a5 := Tryz.isAgg5
  z5 := Tryz.sizeOf5
  v5 := Tryz.zeroValue5
  infoByte := by kernel_rfl
  cellsByte := by kernel_rfl
  sizeByte := by kernel_rfl
  neB5 := by decide
theorem Tryz.Builder_Extra_241 : Builder.Extra Tryz.prog Tryz.lays241_ren where
  sizeBuilder := by kernel_rfl
  liesBuilder := by kernel_rfl
  t5 := Tryz.underlying5
  a5 := Tryz.isAgg5
  z5 := Tryz.sizeOf5
  v5 := Tryz.zeroValue5
  infoByte := by kernel_rfl
  cellsByte := by kernel_rfl
  sizeByte := by kernel_rfl
  neB5 := by decide
end Go.Proofs
end
section
namespace Go.Proofs
open Go.Shelf
open Go.RowKit Go.Lib
theorem Tryz.strings_TrimSuffix (s p : ByteArray) (w : World) (hs : s.size ≤ 9223372036854775807) :
    Calls Tryz.prog 27 #[.string s, .string p] w fun e w' => e = .returned (.string ⟨(Lib.trimSuffix s.data.toList p.data.toList).toArray⟩) ∧ w' = w := Any.strings_TrimSuffix Tryz.lays102 s p w hs
theorem Tryz.strings_Cut (s sep : ByteArray) (m : Int) (w : World) (hs : s.size < 4294967281) (hm : w.cell? ⟨0, 0, none⟩ = some (.int .i64 m)) :
    Calls Tryz.prog 50 #[.string s, .string sep] w fun e w' => e = .returned (.tuple #[.string ⟨(Lib.cut s.data.toList sep.data.toList).1.toArray⟩, .string ⟨(Lib.cut s.data.toList sep.data.toList).2.1.toArray⟩, .bool (Lib.cut s.data.toList sep.data.toList).2.2]) ∧ ∃ n, w' = w.drewN n := Any.strings_Cut Tryz.lays145 s sep m w hs hm
theorem Tryz.strings_Count_one (s : ByteArray) (c : UInt8) (w : World) :
    Calls Tryz.prog 26 #[.string s, .string ⟨#[c]⟩] w fun e w' => e = .returned (.int .i64 (Lib.countByte s.data.toList c)) ∧ w' = w := Any.strings_Count_one Tryz.lays138 s c w
theorem Tryz.strings_Split (s sep : ByteArray) (m : Int) (w : World) (hs : s.size < 4294967281) (hm : w.cell? ⟨0, 0, none⟩ = some (.int .i64 m)) (h1 : 1 ≤ sep.size) :
    Calls Tryz.prog 18 #[.string s, .string sep] w fun e w' =>
      e = .returned (.slice (some ⟨w.heap.size, 0, none⟩) (Lib.countB s sep + 1) (Lib.countB s sep + 1)) ∧ w' = w.alloc (.cells ((Lib.splitB sep 0 (Lib.countB s sep) s).map Value.string).toArray 9) := Any.strings_Split Tryz.lays146 (by kernel_rfl) s sep m w hs hm h1
end Go.Proofs
end
