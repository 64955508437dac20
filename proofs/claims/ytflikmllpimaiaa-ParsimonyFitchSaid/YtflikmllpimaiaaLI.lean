/- The contracts of slices.Sorted, Sort, Compact at ints: the laying. -/
import Derived.Shelf.SlGeneric
import Derived.Shelf.SlLaysM
import Derived.Shelf.Lays2
import Derived.Ground.SlgmProg
import Derived.Ground.Names2Prog
import Derived.Test.YtflikmllpimaiaaProg
namespace Go.Proofs
open Go.Shelf
def Try.sortZ_ren : Go.Shelf.Ren := ⟨fun | 5 => 68 | 8 => 88 | 7 => 87 | 19 => 108 | 20 => 109 | 10 => 99 | 11 => 100 | 12 => 101 | 13 => 102 | 14 => 103 | 15 => 104 | 16 => 105 | 17 => 106 | 18 => 107 | 30 => 120 | 31 => 121 | 32 => 122 | 33 => 123 | 34 => 124 | 35 => 125 | 40 => 134 | n => n, fun | 23 => 22 | 25 => 3 | 3 => 3 | 32 => 100 | 22 => 22 | 0 => 0 | 44 => 120 | 46 => 122 | 4 => 4 | 36 => 112 | 35 => 111 | 41 => 117 | 5 => 5 | 9 => 9 | 53 => 136 | 57 => 140 | 63 => 147 | 64 => 65 | n => n, fun | n => n⟩
theorem Try.sortZ : Go.Proofs.SlLaysM.n5 Try.prog Try.sortZ_ren := {
  mixed := by kernel_rfl
  f5 := ⟨Try.f68.name, by decide, Try.func68.trans (congrArg some (by kernel_rfl))⟩
  f7 := ⟨Try.f87.name, by decide, Try.func87.trans (congrArg some (by kernel_rfl))⟩
  f8 := Try.func88.trans (congrArg some (by kernel_rfl))
  f10 := ⟨Try.f99.name, by decide, Try.func99.trans (congrArg some (by kernel_rfl))⟩
  f11 := ⟨Try.f100.name, by decide, Try.func100.trans (congrArg some (by kernel_rfl))⟩
  f12 := ⟨Try.f101.name, by decide, Try.func101.trans (congrArg some (by kernel_rfl))⟩
  f13 := ⟨Try.f102.name, by decide, Try.func102.trans (congrArg some (by kernel_rfl))⟩
  f14 := ⟨Try.f103.name, by decide, Try.func103.trans (congrArg some (by kernel_rfl))⟩
  f15 := ⟨Try.f104.name, by decide, Try.func104.trans (congrArg some (by kernel_rfl))⟩
  f16 := ⟨Try.f105.name, by decide, Try.func105.trans (congrArg some (by kernel_rfl))⟩
  f17 := ⟨Try.f106.name, by decide, Try.func106.trans (congrArg some (by kernel_rfl))⟩
  f18 := ⟨Try.f107.name, by decide, Try.func107.trans (congrArg some (by kernel_rfl))⟩
  f19 := Try.func108.trans (congrArg some (by kernel_rfl))
  f20 := Try.func109.trans (congrArg some (by kernel_rfl))
  f30 := ⟨Try.f120.name, by decide, Try.func120.trans (congrArg some (by kernel_rfl))⟩
  f31 := Try.func121.trans (congrArg some (by kernel_rfl))
  f32 := Try.func122.trans (congrArg some (by kernel_rfl))
  f33 := ⟨Try.f123.name, by decide, Try.func123.trans (congrArg some (by kernel_rfl))⟩
  f34 := ⟨Try.f124.name, by decide, Try.func124.trans (congrArg some (by kernel_rfl))⟩
  f35 := ⟨Try.f125.name, by decide, Try.func125.trans (congrArg some (by kernel_rfl))⟩
  f40 := ⟨Try.f134.name, by decide, Try.func134.trans (congrArg some (by kernel_rfl))⟩
  t0 := Try.underlying0
  a0 := Try.isAgg0
  z0 := Try.sizeOf0
  v0 := Try.zeroValue0
  t3 := Try.underlying3
  a3 := Try.isAgg3
  z3 := Try.sizeOf3
  v3 := Try.zeroValue3
  t4 := Try.underlying4
  a4 := Try.isAgg4
  z4 := Try.sizeOf4
  v4 := Try.zeroValue4
  t5 := Try.underlying5
  a5 := Try.isAgg5
  z5 := Try.sizeOf5
  v5 := Try.zeroValue5
  t9 := Try.underlying9
  a9 := Try.isAgg9
  z9 := Try.sizeOf9
  v9 := Try.zeroValue9
  t22 := Try.underlying22
  a22 := Try.isAgg22
  z22 := Try.sizeOf22
  v22 := Try.zeroValue22
  t23 := Try.underlying22
  a23 := Try.isAgg22
  z23 := Try.sizeOf22
  v23 := Try.zeroValue22
  t25 := Try.underlying3
  a25 := Try.isAgg3
  z25 := Try.sizeOf3
  v25 := Try.zeroValue3
  t32 := Try.underlying100
  a32 := Try.isAgg100
  z32 := Try.sizeOf100
  v32 := Try.zeroValue100
  t35 := Try.underlying111
  a35 := Try.isAgg111
  z35 := Try.sizeOf111
  v35 := Try.zeroValue111
  t36 := Try.underlying112
  a36 := Try.isAgg112
  z36 := Try.sizeOf112
  v36 := Try.zeroValue112
  t41 := Try.underlying117
  a41 := Try.isAgg117
  z41 := Try.sizeOf117
  v41 := Try.zeroValue117
  t44 := Try.underlying120
  a44 := Try.isAgg120
  z44 := Try.sizeOf120
  v44 := Try.zeroValue120
  t46 := Try.underlying122
  a46 := Try.isAgg122
  z46 := Try.sizeOf122
  v46 := Try.zeroValue122
  t53 := Try.underlying136
  a53 := Try.isAgg136
  z53 := Try.sizeOf136
  v53 := Try.zeroValue136
  t57 := Try.underlying140
  a57 := Try.isAgg140
  z57 := Try.sizeOf140
  v57 := Try.zeroValue140
  t63 := Try.underlying147
  a63 := Try.isAgg147
  z63 := Try.sizeOf147
  v63 := Try.zeroValue147
  t64 := Try.underlying65
  a64 := Try.isAgg65
  z64 := Try.sizeOf65
  v64 := Try.zeroValue65 }
def Try.compactZ_ren : Go.Shelf.Ren := ⟨fun | 20 => 39 | n => n, fun | 22 => 22 | 3 => 3 | 4 => 4 | 0 => 0 | n => n, fun | n => n⟩
theorem Try.compactZ : Go.Proofs.Lays2.n20 Try.prog Try.compactZ_ren := {
  mixed := by kernel_rfl
  f20 := Try.func39.trans (congrArg some (by kernel_rfl))
  t0 := Try.underlying0
  a0 := Try.isAgg0
  z0 := Try.sizeOf0
  v0 := Try.zeroValue0
  t3 := Try.underlying3
  a3 := Try.isAgg3
  z3 := Try.sizeOf3
  v3 := Try.zeroValue3
  t4 := Try.underlying4
  a4 := Try.isAgg4
  z4 := Try.sizeOf4
  v4 := Try.zeroValue4
  t22 := Try.underlying22
  a22 := Try.isAgg22
  z22 := Try.sizeOf22
  v22 := Try.zeroValue22
  i3 := by kernel_rfl }
end Go.Proofs
