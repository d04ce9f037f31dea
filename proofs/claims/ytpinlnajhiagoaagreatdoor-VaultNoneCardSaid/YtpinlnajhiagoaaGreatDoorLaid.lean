/-
  A part of the proof of a statement of cofferlaw29.
-/
import Derived.Shelf.SlGeneric
import Derived.Shelf.SlIterI.Nil
import Derived.Shelf.SlIterI.Sorted
import Derived.Shelf.SlIter.Nil
import Derived.Shelf.SortM.Plain
import Derived.Shelf.SortM.SortNone
import Derived.Shelf.Sort.Plain
import Derived.Shelf.Slices.In.SortNone
import Derived.Shelf.Strings.Builder1
import Derived.Shelf.Strings.Builder2Cap
import Derived.Shelf.Strconv.Itoa1
import Derived.Ground.GgzProg
import Derived.Ground.SlgmProg
import Derived.Ground.NamesProg
import Derived.Test.YtpinlnajhiagoaaGreatDoorProg
set_option linter.unusedVariables false
set_option linter.unusedSimpArgs false
section
namespace Go.Proofs
open Go.Shelf
def Tryz.keys149_ren : Go.Shelf.Ren := ⟨fun | 7 => 107 | 10 => 210 | n => n, fun | 23 => 79 | 26 => 3 | 3 => 39 | 28 => 195 | 0 => 0 | 27 => 194 | 33 => 288 | 4 => 4 | n => n, fun | n => n⟩
theorem Tryz.keys149 : Go.Proofs.SlLaysZI.n7 Tryz.prog Tryz.keys149_ren := {
  mixed := by kernel_rfl
  f7 := ⟨Tryz.f107.name, by decide, Tryz.func107.trans (congrArg some (by kernel_rfl))⟩
  f10 := ⟨Tryz.f210.name, by decide, Tryz.func210.trans (congrArg some (by kernel_rfl))⟩
  t0 := Tryz.underlying0
  a0 := Tryz.isAgg0
  z0 := Tryz.sizeOf0
  v0 := Tryz.zeroValue0
  t4 := Tryz.underlying4
  a4 := Tryz.isAgg4
  z4 := Tryz.sizeOf4
  v4 := Tryz.zeroValue4
  t23 := Tryz.underlying79
  a23 := Tryz.isAgg79
  z23 := Tryz.sizeOf79
  v23 := Tryz.zeroValue79
  t26 := Tryz.underlying3
  a26 := Tryz.isAgg3
  z26 := Tryz.sizeOf3
  v26 := Tryz.zeroValue3
  t27 := Tryz.underlying194
  a27 := Tryz.isAgg194
  z27 := Tryz.sizeOf194
  v27 := Tryz.zeroValue194
  t28 := Tryz.underlying195
  a28 := Tryz.isAgg195
  z28 := Tryz.sizeOf195
  v28 := Tryz.zeroValue195
  t33 := Tryz.underlying288
  a33 := Tryz.isAgg288
  z33 := Tryz.sizeOf288
  v33 := Tryz.zeroValue288 }
def Tryz.sorted148_ren : Go.Shelf.Ren := ⟨fun | 6 => 106 | 8 => 208 | 9 => 209 | 11 => 312 | 13 => 182 | 12 => 313 | 23 => 282 | 24 => 283 | 14 => 411 | 15 => 412 | 16 => 413 | 17 => 414 | 18 => 415 | 19 => 416 | 20 => 417 | 21 => 418 | 22 => 419 | 25 => 488 | 26 => 391 | 27 => 392 | 28 => 489 | 29 => 490 | 30 => 491 | 31 => 537 | n => n, fun | 26 => 3 | 28 => 195 | 24 => 192 | 0 => 0 | 3 => 3 | 37 => 272 | 48 => 126 | 50 => 27 | 4 => 4 | 40 => 406 | 39 => 405 | 45 => 281 | 5 => 5 | 9 => 9 | 51 => 515 | 55 => 234 | 57 => 602 | 58 => 603 | 33 => 288 | n => n, fun | n => n⟩
theorem Tryz.sorted148 : Go.Proofs.SlLaysZI.n6 Tryz.prog Tryz.sorted148_ren := {
  mixed := by kernel_rfl
  f6 := ⟨Tryz.f106.name, by decide, Tryz.func106.trans (congrArg some (by kernel_rfl))⟩
  f8 := ⟨Tryz.f208.name, by decide, Tryz.func208.trans (congrArg some (by kernel_rfl))⟩
  f11 := ⟨Tryz.f312.name, by decide, Tryz.func312.trans (congrArg some (by kernel_rfl))⟩
  t0 := Tryz.underlying0
  a0 := Tryz.isAgg0
  z0 := Tryz.sizeOf0
  v0 := Tryz.zeroValue0
  t24 := Tryz.underlying192
  a24 := Tryz.isAgg192
  z24 := Tryz.sizeOf192
  v24 := Tryz.zeroValue192
  t26 := Tryz.underlying3
  a26 := Tryz.isAgg3
  z26 := Tryz.sizeOf3
  v26 := Tryz.zeroValue3
  t28 := Tryz.underlying195
  a28 := Tryz.isAgg195
  z28 := Tryz.sizeOf195
  v28 := Tryz.zeroValue195
  i26 := by kernel_rfl }
def Tryz.lays189_ren : Go.Shelf.Ren := ⟨fun | 189 => 209 | 125 => 182 | 257 => 313 | 128 => 282 | 129 => 283 | 294 => 411 | 295 => 412 | 296 => 413 | 297 => 414 | 298 => 415 | 299 => 416 | 216 => 417 | 300 => 418 | 301 => 419 | 328 => 488 | 329 => 391 | 330 => 392 | 331 => 489 | 332 => 490 | 215 => 491 | 343 => 537 | n => n, fun | 28 => 192 | 3 => 3 | 46 => 272 | 0 => 0 | 51 => 126 | 53 => 27 | 4 => 4 | 183 => 406 | 182 => 405 | 131 => 281 | 5 => 5 | 9 => 9 | 218 => 515 | 222 => 234 | 228 => 602 | 229 => 603 | n => n, fun | n => n⟩
theorem Tryz.lays189 : Go.Proofs.Lays.n189 Tryz.prog Tryz.lays189_ren := {
  mixed := by kernel_rfl
  f125 := Tryz.func182.trans (congrArg some (by kernel_rfl))
  f128 := Tryz.func282.trans (congrArg some (by kernel_rfl))
  f129 := Tryz.func283.trans (congrArg some (by kernel_rfl))
  f189 := Tryz.func209.trans (congrArg some (by kernel_rfl))
  f215 := Tryz.func491.trans (congrArg some (by kernel_rfl))
  f216 := Tryz.func417.trans (congrArg some (by kernel_rfl))
  f257 := Tryz.func313.trans (congrArg some (by kernel_rfl))
  f294 := Tryz.func411.trans (congrArg some (by kernel_rfl))
  f295 := Tryz.func412.trans (congrArg some (by kernel_rfl))
  f296 := Tryz.func413.trans (congrArg some (by kernel_rfl))
  f297 := Tryz.func414.trans (congrArg some (by kernel_rfl))
  f298 := Tryz.func415.trans (congrArg some (by kernel_rfl))
  f299 := Tryz.func416.trans (congrArg some (by kernel_rfl))
  f300 := Tryz.func418.trans (congrArg some (by kernel_rfl))
  f301 := Tryz.func419.trans (congrArg some (by kernel_rfl))
  f328 := Tryz.func488.trans (congrArg some (by kernel_rfl))
  f329 := Tryz.func391.trans (congrArg some (by kernel_rfl))
  f330 := Tryz.func392.trans (congrArg some (by kernel_rfl))
  f331 := Tryz.func489.trans (congrArg some (by kernel_rfl))
  f332 := Tryz.func490.trans (congrArg some (by kernel_rfl))
  f343 := Tryz.func537.trans (congrArg some (by kernel_rfl))
  t0 := Tryz.underlying0
  a0 := Tryz.isAgg0
  z0 := Tryz.sizeOf0
  v0 := Tryz.zeroValue0
  t3 := Tryz.underlying3
  a3 := Tryz.isAgg3
  z3 := Tryz.sizeOf3
  v3 := Tryz.zeroValue3
  t4 := Tryz.underlying4
  a4 := Tryz.isAgg4
  z4 := Tryz.sizeOf4
  v4 := Tryz.zeroValue4
  t5 := Tryz.underlying5
  a5 := Tryz.isAgg5
  z5 := Tryz.sizeOf5
  v5 := Tryz.zeroValue5
  t9 := Tryz.underlying9
  a9 := Tryz.isAgg9
  z9 := Tryz.sizeOf9
  v9 := Tryz.zeroValue9
  t28 := Tryz.underlying192
  a28 := Tryz.isAgg192
  z28 := Tryz.sizeOf192
  v28 := Tryz.zeroValue192
  t46 := Tryz.underlying272
  a46 := Tryz.isAgg272
  z46 := Tryz.sizeOf272
  v46 := Tryz.zeroValue272
  t51 := Tryz.underlying126
  a51 := Tryz.isAgg126
  z51 := Tryz.sizeOf126
  v51 := Tryz.zeroValue126
  t53 := Tryz.underlying27
  a53 := Tryz.isAgg27
  z53 := Tryz.sizeOf27
  v53 := Tryz.zeroValue27
  t131 := Tryz.underlying281
  a131 := Tryz.isAgg281
  z131 := Tryz.sizeOf281
  v131 := Tryz.zeroValue281
  t182 := Tryz.underlying405
  a182 := Tryz.isAgg405
  z182 := Tryz.sizeOf405
  v182 := Tryz.zeroValue405
  t183 := Tryz.underlying406
  a183 := Tryz.isAgg406
  z183 := Tryz.sizeOf406
  v183 := Tryz.zeroValue406
  t218 := Tryz.underlying515
  a218 := Tryz.isAgg515
  z218 := Tryz.sizeOf515
  v218 := Tryz.zeroValue515
  t222 := Tryz.underlying234
  a222 := Tryz.isAgg234
  z222 := Tryz.sizeOf234
  v222 := Tryz.zeroValue234
  t228 := Tryz.underlying602
  a228 := Tryz.isAgg602
  z228 := Tryz.sizeOf602
  v228 := Tryz.zeroValue602
  t229 := Tryz.underlying603
  a229 := Tryz.isAgg603
  z229 := Tryz.sizeOf603
  v229 := Tryz.zeroValue603 }
def Tryz.keys233_ren : Go.Shelf.Ren := ⟨fun | 7 => 147 | 10 => 231 | n => n, fun | 23 => 141 | 26 => 9 | 3 => 181 | 28 => 263 | 0 => 0 | 27 => 262 | 33 => 274 | 4 => 4 | n => n, fun | n => n⟩
theorem Tryz.keys233 : Go.Proofs.SlLaysZ.n7 Tryz.prog Tryz.keys233_ren := {
  mixed := by kernel_rfl
  f7 := ⟨Tryz.f147.name, by decide, Tryz.func147.trans (congrArg some (by kernel_rfl))⟩
  f10 := ⟨Tryz.f231.name, by decide, Tryz.func231.trans (congrArg some (by kernel_rfl))⟩
  t0 := Tryz.underlying0
  a0 := Tryz.isAgg0
  z0 := Tryz.sizeOf0
  v0 := Tryz.zeroValue0
  t4 := Tryz.underlying4
  a4 := Tryz.isAgg4
  z4 := Tryz.sizeOf4
  v4 := Tryz.zeroValue4
  t23 := Tryz.underlying141
  a23 := Tryz.isAgg141
  z23 := Tryz.sizeOf141
  v23 := Tryz.zeroValue141
  t26 := Tryz.underlying9
  a26 := Tryz.isAgg9
  z26 := Tryz.sizeOf9
  v26 := Tryz.zeroValue9
  t27 := Tryz.underlying262
  a27 := Tryz.isAgg262
  z27 := Tryz.sizeOf262
  v27 := Tryz.zeroValue262
  t28 := Tryz.underlying263
  a28 := Tryz.isAgg263
  z28 := Tryz.sizeOf263
  v28 := Tryz.zeroValue263
  t33 := Tryz.underlying274
  a33 := Tryz.isAgg274
  z33 := Tryz.sizeOf274
  v33 := Tryz.zeroValue274 }
def Tryz.sorted232_ren : Go.Shelf.Ren := ⟨fun | 6 => 146 | 8 => 229 | 9 => 230 | 11 => 329 | 13 => 182 | 12 => 330 | 23 => 282 | 24 => 283 | 14 => 437 | 15 => 438 | 16 => 439 | 17 => 440 | 18 => 441 | 19 => 442 | 20 => 443 | 21 => 444 | 22 => 445 | 25 => 511 | 26 => 391 | 27 => 392 | 28 => 512 | 29 => 513 | 30 => 514 | 31 => 559 | n => n, fun | 26 => 9 | 28 => 263 | 24 => 260 | 0 => 0 | 3 => 3 | 37 => 272 | 48 => 126 | 50 => 27 | 4 => 4 | 40 => 406 | 39 => 405 | 45 => 281 | 5 => 5 | 9 => 9 | 51 => 515 | 55 => 234 | 57 => 602 | 58 => 603 | 33 => 274 | n => n, fun | n => n⟩
theorem Tryz.sorted232 : Go.Proofs.SlLaysZ.n6 Tryz.prog Tryz.sorted232_ren := {
  mixed := by kernel_rfl
  f6 := ⟨Tryz.f146.name, by decide, Tryz.func146.trans (congrArg some (by kernel_rfl))⟩
  f8 := ⟨Tryz.f229.name, by decide, Tryz.func229.trans (congrArg some (by kernel_rfl))⟩
  f11 := ⟨Tryz.f329.name, by decide, Tryz.func329.trans (congrArg some (by kernel_rfl))⟩
  t0 := Tryz.underlying0
  a0 := Tryz.isAgg0
  z0 := Tryz.sizeOf0
  v0 := Tryz.zeroValue0
  t24 := Tryz.underlying260
  a24 := Tryz.isAgg260
  z24 := Tryz.sizeOf260
  v24 := Tryz.zeroValue260
  t26 := Tryz.underlying9
  a26 := Tryz.isAgg9
  z26 := Tryz.sizeOf9
  v26 := Tryz.zeroValue9
  t28 := Tryz.underlying263
  a28 := Tryz.isAgg263
  z28 := Tryz.sizeOf263
  v28 := Tryz.zeroValue263
  i26 := by kernel_rfl }
def Tryz.sort315_ren : Go.Shelf.Ren := ⟨fun | 6 => 230 | 8 => 182 | 9 => 330 | 19 => 282 | 20 => 283 | 21 => 437 | 22 => 438 | 23 => 439 | 24 => 440 | 25 => 441 | 26 => 442 | 27 => 443 | 28 => 444 | 29 => 445 | 36 => 511 | 31 => 391 | 32 => 392 | 37 => 512 | 38 => 513 | 39 => 514 | 41 => 559 | n => n, fun | 27 => 260 | 29 => 9 | 3 => 3 | 32 => 272 | 26 => 260 | 0 => 0 | 44 => 126 | 46 => 27 | 4 => 4 | 36 => 406 | 35 => 405 | 41 => 281 | 5 => 5 | 9 => 9 | 53 => 515 | 57 => 234 | 63 => 602 | 64 => 603 | n => n, fun | n => n⟩
theorem Tryz.sort315 : Go.Proofs.SlLaysM.n6 Tryz.prog Tryz.sort315_ren := {
  mixed := by kernel_rfl
  f6 := ⟨Tryz.f230.name, by decide, Tryz.func230.trans (congrArg some (by kernel_rfl))⟩
  f8 := Tryz.func182.trans (congrArg some (by kernel_rfl))
  f9 := ⟨Tryz.f330.name, by decide, Tryz.func330.trans (congrArg some (by kernel_rfl))⟩
  f19 := Tryz.func282.trans (congrArg some (by kernel_rfl))
  f20 := Tryz.func283.trans (congrArg some (by kernel_rfl))
  f21 := ⟨Tryz.f437.name, by decide, Tryz.func437.trans (congrArg some (by kernel_rfl))⟩
  f22 := ⟨Tryz.f438.name, by decide, Tryz.func438.trans (congrArg some (by kernel_rfl))⟩
  f23 := ⟨Tryz.f439.name, by decide, Tryz.func439.trans (congrArg some (by kernel_rfl))⟩
  f24 := ⟨Tryz.f440.name, by decide, Tryz.func440.trans (congrArg some (by kernel_rfl))⟩
  f25 := ⟨Tryz.f441.name, by decide, Tryz.func441.trans (congrArg some (by kernel_rfl))⟩
  f26 := ⟨Tryz.f442.name, by decide, Tryz.func442.trans (congrArg some (by kernel_rfl))⟩
  f27 := ⟨Tryz.f443.name, by decide, Tryz.func443.trans (congrArg some (by kernel_rfl))⟩
  f28 := ⟨Tryz.f444.name, by decide, Tryz.func444.trans (congrArg some (by kernel_rfl))⟩
  f29 := ⟨Tryz.f445.name, by decide, Tryz.func445.trans (congrArg some (by kernel_rfl))⟩
  f31 := Tryz.func391.trans (congrArg some (by kernel_rfl))
  f32 := Tryz.func392.trans (congrArg some (by kernel_rfl))
  f36 := ⟨Tryz.f511.name, by decide, Tryz.func511.trans (congrArg some (by kernel_rfl))⟩
  f37 := ⟨Tryz.f512.name, by decide, Tryz.func512.trans (congrArg some (by kernel_rfl))⟩
  f38 := ⟨Tryz.f513.name, by decide, Tryz.func513.trans (congrArg some (by kernel_rfl))⟩
  f39 := ⟨Tryz.f514.name, by decide, Tryz.func514.trans (congrArg some (by kernel_rfl))⟩
  f41 := ⟨Tryz.f559.name, by decide, Tryz.func559.trans (congrArg some (by kernel_rfl))⟩
  t0 := Tryz.underlying0
  a0 := Tryz.isAgg0
  z0 := Tryz.sizeOf0
  v0 := Tryz.zeroValue0
  t3 := Tryz.underlying3
  a3 := Tryz.isAgg3
  z3 := Tryz.sizeOf3
  v3 := Tryz.zeroValue3
  t4 := Tryz.underlying4
  a4 := Tryz.isAgg4
  z4 := Tryz.sizeOf4
  v4 := Tryz.zeroValue4
  t5 := Tryz.underlying5
  a5 := Tryz.isAgg5
  z5 := Tryz.sizeOf5
  v5 := Tryz.zeroValue5
  t9 := Tryz.underlying9
  a9 := Tryz.isAgg9
  z9 := Tryz.sizeOf9
  v9 := Tryz.zeroValue9
  t26 := Tryz.underlying260
  a26 := Tryz.isAgg260
  z26 := Tryz.sizeOf260
  v26 := Tryz.zeroValue260
  t27 := Tryz.underlying260
  a27 := Tryz.isAgg260
  z27 := Tryz.sizeOf260
  v27 := Tryz.zeroValue260
  t29 := Tryz.underlying9
  a29 := Tryz.isAgg9
  z29 := Tryz.sizeOf9
  v29 := Tryz.zeroValue9
  t32 := Tryz.underlying272
  a32 := Tryz.isAgg272
  z32 := Tryz.sizeOf272
  v32 := Tryz.zeroValue272
  t35 := Tryz.underlying405
  a35 := Tryz.isAgg405
  z35 := Tryz.sizeOf405
  v35 := Tryz.zeroValue405
  t36 := Tryz.underlying406
  a36 := Tryz.isAgg406
  z36 := Tryz.sizeOf406
  v36 := Tryz.zeroValue406
  t41 := Tryz.underlying281
  a41 := Tryz.isAgg281
  z41 := Tryz.sizeOf281
  v41 := Tryz.zeroValue281
  t44 := Tryz.underlying126
  a44 := Tryz.isAgg126
  z44 := Tryz.sizeOf126
  v44 := Tryz.zeroValue126
  t46 := Tryz.underlying27
  a46 := Tryz.isAgg27
  z46 := Tryz.sizeOf27
  v46 := Tryz.zeroValue27
  t53 := Tryz.underlying515
  a53 := Tryz.isAgg515
  z53 := Tryz.sizeOf515
  v53 := Tryz.zeroValue515
  t57 := Tryz.underlying234
  a57 := Tryz.isAgg234
  z57 := Tryz.sizeOf234
  v57 := Tryz.zeroValue234
  t63 := Tryz.underlying602
  a63 := Tryz.isAgg602
  z63 := Tryz.sizeOf602
  v63 := Tryz.zeroValue602
  t64 := Tryz.underlying603
  a64 := Tryz.isAgg603
  z64 := Tryz.sizeOf603
  v64 := Tryz.zeroValue603 }
def Tryz.lays169_ren : Go.Shelf.Ren := ⟨fun | 169 => 542 | n => n, fun | 70 => 655 | 9 => 9 | 0 => 0 | 72 => 657 | 37 => 39 | 127 => 687 | 3 => 3 | 5 => 5 | n => n, fun | n => n⟩
theorem Tryz.lays169 : Go.Proofs.Lays.n169 Tryz.prog Tryz.lays169_ren := {
  mixed := by kernel_rfl
  f169 := Tryz.func542.trans (congrArg some (by kernel_rfl))
  t0 := Tryz.underlying0
  a0 := Tryz.isAgg0
  z0 := Tryz.sizeOf0
  v0 := Tryz.zeroValue0
  t3 := Tryz.underlying3
  a3 := Tryz.isAgg3
  z3 := Tryz.sizeOf3
  v3 := Tryz.zeroValue3
  t9 := Tryz.underlying9
  a9 := Tryz.isAgg9
  z9 := Tryz.sizeOf9
  v9 := Tryz.zeroValue9
  t37 := Tryz.underlying39
  a37 := Tryz.isAgg39
  z37 := Tryz.sizeOf39
  v37 := Tryz.zeroValue39
  t70 := Tryz.underlying655
  a70 := Tryz.isAgg655
  z70 := Tryz.sizeOf655
  v70 := Tryz.zeroValue655
  t72 := Tryz.underlying657
  a72 := Tryz.isAgg657
  z72 := Tryz.sizeOf657
  v72 := Tryz.zeroValue657
  t127 := Tryz.underlying687
  a127 := Tryz.isAgg687
  z127 := Tryz.sizeOf687
  v127 := Tryz.zeroValue687 }
def Tryz.lays241_ren : Go.Shelf.Ren := ⟨fun | 241 => 577 | 277 => 599 | n => n, fun | 70 => 655 | 3 => 3 | 0 => 0 | 72 => 657 | 37 => 39 | 5 => 5 | n => n, fun | n => n⟩
theorem Tryz.lays241 : Go.Proofs.Lays.n241 Tryz.prog Tryz.lays241_ren := {
  mixed := by kernel_rfl
  f241 := Tryz.func577.trans (congrArg some (by kernel_rfl))
  f277 := Tryz.func599.trans (congrArg some (by kernel_rfl))
  t0 := Tryz.underlying0
  a0 := Tryz.isAgg0
  z0 := Tryz.sizeOf0
  v0 := Tryz.zeroValue0
  t3 := Tryz.underlying3
  a3 := Tryz.isAgg3
  z3 := Tryz.sizeOf3
  v3 := Tryz.zeroValue3
  t37 := Tryz.underlying39
  a37 := Tryz.isAgg39
  z37 := Tryz.sizeOf39
  v37 := Tryz.zeroValue39
  t70 := Tryz.underlying655
  a70 := Tryz.isAgg655
  z70 := Tryz.sizeOf655
  v70 := Tryz.zeroValue655
  t72 := Tryz.underlying657
  a72 := Tryz.isAgg657
  z72 := Tryz.sizeOf657
  v72 := Tryz.zeroValue657 }
def Tryz.lays284_ren : Go.Shelf.Ren := ⟨fun | 284 => 525 | 129 => 283 | 317 => 569 | 318 => 570 | n => n, fun | 53 => 27 | 3 => 3 | 212 => 682 | 0 => 0 | 4 => 4 | 46 => 272 | 5 => 5 | 9 => 9 | n => n, fun | 17 => 1 | n => n⟩
theorem Tryz.lays284 : Go.Proofs.LaysM.n284 Tryz.prog Tryz.lays284_ren := {
  mixed := by kernel_rfl
  f129 := Tryz.func283.trans (congrArg some (by kernel_rfl))
  f284 := Tryz.func525.trans (congrArg some (by kernel_rfl))
  f317 := Tryz.func569.trans (congrArg some (by kernel_rfl))
  f318 := Tryz.func570.trans (congrArg some (by kernel_rfl))
  t0 := Tryz.underlying0
  a0 := Tryz.isAgg0
  z0 := Tryz.sizeOf0
  v0 := Tryz.zeroValue0
  t3 := Tryz.underlying3
  a3 := Tryz.isAgg3
  z3 := Tryz.sizeOf3
  v3 := Tryz.zeroValue3
  t4 := Tryz.underlying4
  a4 := Tryz.isAgg4
  z4 := Tryz.sizeOf4
  v4 := Tryz.zeroValue4
  t5 := Tryz.underlying5
  a5 := Tryz.isAgg5
  z5 := Tryz.sizeOf5
  v5 := Tryz.zeroValue5
  t9 := Tryz.underlying9
  a9 := Tryz.isAgg9
  z9 := Tryz.sizeOf9
  v9 := Tryz.zeroValue9
  t46 := Tryz.underlying272
  a46 := Tryz.isAgg272
  z46 := Tryz.sizeOf272
  v46 := Tryz.zeroValue272
  t53 := Tryz.underlying27
  a53 := Tryz.isAgg27
  z53 := Tryz.sizeOf27
  v53 := Tryz.zeroValue27
  t212 := Tryz.underlying682
  a212 := Tryz.isAgg682
  z212 := Tryz.sizeOf682
  v212 := Tryz.zeroValue682
  g17 := by kernel_rfl
  i0 := by kernel_rfl
  i3 := by kernel_rfl
  i4 := by kernel_rfl
  i5 := by kernel_rfl
  i9 := by kernel_rfl
  i46 := by kernel_rfl
  i53 := by kernel_rfl
  i212 := by kernel_rfl
  m17 := by kernel_rfl }
end Go.Proofs
end
section
namespace Go.Proofs
open Go.RowKit Go.Maps Go.Sort Go.Shelf


theorem Tryz.sorts148 (m : Nat) : AnyZI.SortsIn Tryz.prog Tryz.sorted148_ren Fence.wide m :=
  ⟨fun blk off cap ss W hH hblk hsz => callsIn_wide.2 (Any.slices_Sort_int Tryz.lays189 blk off cap ss W hH hblk hsz),
   fun p cap W => callsIn_wide.2 (Any.slices_Sort_int_none Tryz.lays189 p cap W)⟩
end Go.Proofs
end
section
namespace Go.Proofs
open Go.RowKit Go.Maps Go.Sort Go.Shelf

/-- slices.Sort's two contracts at this dump, at the fence that asks nothing. -/
theorem Tryz.sorts232 (m : Nat) : AnyZ.SortsIn Tryz.prog Tryz.sorted232_ren Fence.wide m :=
  ⟨fun blk off cap ss W hH hblk hsz => callsIn_wide.2 (AnyM.slices_Sort_string Tryz.sort315 blk off cap ss W hH hblk hsz),
   fun p cap W => callsIn_wide.2 (AnyM.slices_Sort_string_none Tryz.sort315 p cap W)⟩
end Go.Proofs
end
section
namespace Go.Proofs
open Go.Shelf
theorem Tryz.Builder_Extra_169 : Builder.Extra Tryz.prog Tryz.lays169_ren where
  sizeBuilder := by kernel_rfl
  liesBuilder := by kernel_rfl
  t5 := Tryz.underlying5
  a5 := Tryz.isAgg5
  z5 := Tryz.sizeOf5
  v5 := Tryz.zeroValue5
  infoByte := by kernel_rfl
  cellsByte := by kernel_rfl
  sizeByte := by kernel_rfl
  neB5 := by decide
theorem Tryz.Builder_Extra_241 : Builder.Extra Tryz.prog Tryz.lays241_ren where
  sizeBuilder := by kernel_rfl
  liesBuilder := by kernel_rfl
  t5 := Tryz.underlying5
  a5 := Tryz.isAgg5
  z5 := Tryz.sizeOf5
  v5 := Tryz.zeroValue5
  infoByte := by kernel_rfl
  cellsByte := by kernel_rfl
  sizeByte := by kernel_rfl
  neB5 := by decide
end Go.Proofs
end
section
namespace Go.Proofs
open Go.Shelf
end Go.Proofs
end
