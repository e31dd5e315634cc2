/- The shelf's layings for package model, in this program. -/
import Derived.Ground.SlbCloneProg
import Derived.Ground.SlgnProg
import Derived.Ground.SlgfProg
import Derived.Shelf.SlicesE.Clone
import Derived.Shelf.SlicesQ.IndexFunc
import Derived.Shelf.Bytes.SlClone
import Derived.Shelf.Bytes.SlEqualAll
import Derived.Shelf.SlMaps.Clone
import Derived.Shelf.SlMaps.DeleteFunc
import Derived.Shelf.SlMaps.Equal
import Derived.Test.YtjbjcfnbgcloiaaDoorProg
set_option maxRecDepth 100000
namespace Go.Proofs
open Go.Shelf
def Tryd.bcloneL_ren : Go.Shelf.Ren := ⟨fun | 4 => 42 | n => n, fun | 22 => 29 | 4 => 4 | 5 => 5 | n => n, fun | n => n⟩
theorem Tryd.bcloneL : Go.Proofs.SlLaysK.n4 Tryd.prog Tryd.bcloneL_ren := {
  mixed := by kernel_rfl
  f4 := Tryd.func42.trans (congrArg some (by kernel_rfl))
  t4 := Tryd.underlying4
  a4 := Tryd.isAgg4
  z4 := Tryd.sizeOf4
  v4 := Tryd.zeroValue4
  t22 := Tryd.underlying29
  a22 := Tryd.isAgg29
  z22 := Tryd.sizeOf29
  v22 := Tryd.zeroValue29
  t5 := Tryd.underlying5
  i5 := by kernel_rfl }
def Tryd.bequalL_ren : Go.Shelf.Ren := ⟨fun | 115 => 31 | n => n, fun | 37 => 29 | 4 => 4 | 9 => 9 | 5 => 5 | n => n, fun | n => n⟩
theorem Tryd.bequalL : Go.Proofs.Lays.nb115 Tryd.prog Tryd.bequalL_ren := {
  mixed := by kernel_rfl
  f115 := Tryd.func31.trans (congrArg some (by kernel_rfl))
  t4 := Tryd.underlying4
  a4 := Tryd.isAgg4
  z4 := Tryd.sizeOf4
  v4 := Tryd.zeroValue4
  t9 := Tryd.underlying9
  a9 := Tryd.isAgg9
  z9 := Tryd.sizeOf9
  v9 := Tryd.zeroValue9
  t37 := Tryd.underlying29
  a37 := Tryd.isAgg29
  z37 := Tryd.sizeOf29
  v37 := Tryd.zeroValue29
  t5 := Tryd.underlying5
  a5 := Tryd.isAgg5
  z5 := Tryd.sizeOf5
  v5 := Tryd.zeroValue5 }
def Tryd.cloneK_ren : Go.Shelf.Ren := ⟨fun | 41 => 38 | n => n, fun | 22 => 77 | 23 => 74 | 4 => 4 | n => n, fun | n => n⟩
theorem Tryd.cloneK : Go.Proofs.SlLaysE0.n41 Tryd.prog Tryd.cloneK_ren := {
  mixed := by kernel_rfl
  f41 := ⟨Tryd.f38.name, by decide, Tryd.func38.trans (congrArg some (by kernel_rfl))⟩
  t4 := Tryd.underlying4
  a4 := Tryd.isAgg4
  z4 := Tryd.sizeOf4
  v4 := Tryd.zeroValue4
  t22 := Tryd.underlying77
  a22 := Tryd.isAgg77
  z22 := Tryd.sizeOf77
  v22 := Tryd.zeroValue77 }
def Tryd.indexK_ren : Go.Shelf.Ren := ⟨fun | 6 => 59 | n => n, fun | 22 => 77 | 23 => 74 | 25 => 108 | 3 => 3 | 0 => 0 | 4 => 4 | n => n, fun | n => n⟩
theorem Tryd.indexK : Go.Proofs.SlLaysH0.n6 Tryd.prog Tryd.indexK_ren := {
  mixed := by kernel_rfl
  f6 := ⟨Tryd.f59.name, by decide, Tryd.func59.trans (congrArg some (by kernel_rfl))⟩
  t0 := Tryd.underlying0
  a0 := Tryd.isAgg0
  z0 := Tryd.sizeOf0
  v0 := Tryd.zeroValue0
  t3 := Tryd.underlying3
  a3 := Tryd.isAgg3
  z3 := Tryd.sizeOf3
  v3 := Tryd.zeroValue3
  t4 := Tryd.underlying4
  a4 := Tryd.isAgg4
  z4 := Tryd.sizeOf4
  v4 := Tryd.zeroValue4
  t22 := Tryd.underlying77
  a22 := Tryd.isAgg77
  z22 := Tryd.sizeOf77
  v22 := Tryd.zeroValue77
  t25 := Tryd.underlying108
  a25 := Tryd.isAgg108
  z25 := Tryd.sizeOf108
  v25 := Tryd.zeroValue108 }
def Tryd.mcloneK_ren : Go.Shelf.Ren := ⟨fun | 5 => 53 | 7 => 66 | n => n, fun | 23 => 63 | 25 => 9 | 3 => 77 | 4 => 4 | 20 => 20 | n => n, fun | n => n⟩
theorem Tryd.mcloneK : Go.Proofs.SlLaysW.n5 Tryd.prog Tryd.mcloneK_ren := {
  mixed := by kernel_rfl
  f5 := ⟨Tryd.f53.name, by decide, Tryd.func53.trans (congrArg some (by kernel_rfl))⟩
  f7 := Tryd.func66.trans (congrArg some (by kernel_rfl))
  t4 := Tryd.underlying4
  a4 := Tryd.isAgg4
  z4 := Tryd.sizeOf4
  v4 := Tryd.zeroValue4
  t20 := Tryd.underlying20
  a20 := Tryd.isAgg20
  z20 := Tryd.sizeOf20
  v20 := Tryd.zeroValue20
  t23 := Tryd.underlying63
  a23 := Tryd.isAgg63
  z23 := Tryd.sizeOf63
  v23 := Tryd.zeroValue63 }
def Tryd.mdelK_ren : Go.Shelf.Ren := ⟨fun | 5 => 54 | n => n, fun | 23 => 63 | 26 => 9 | 24 => 77 | 27 => 103 | 0 => 0 | 4 => 4 | n => n, fun | n => n⟩
theorem Tryd.mdelK : Go.Proofs.SlLaysDf.n5 Tryd.prog Tryd.mdelK_ren := {
  mixed := by kernel_rfl
  f5 := ⟨Tryd.f54.name, by decide, Tryd.func54.trans (congrArg some (by kernel_rfl))⟩
  t0 := Tryd.underlying0
  a0 := Tryd.isAgg0
  z0 := Tryd.sizeOf0
  v0 := Tryd.zeroValue0
  t4 := Tryd.underlying4
  a4 := Tryd.isAgg4
  z4 := Tryd.sizeOf4
  v4 := Tryd.zeroValue4
  t23 := Tryd.underlying63
  a23 := Tryd.isAgg63
  z23 := Tryd.sizeOf63
  v23 := Tryd.zeroValue63
  a24 := Tryd.isAgg77
  z24 := Tryd.sizeOf77
  a26 := Tryd.isAgg9
  z26 := Tryd.sizeOf9
  t27 := Tryd.underlying103
  a27 := Tryd.isAgg103
  z27 := Tryd.sizeOf103
  v27 := Tryd.zeroValue103 }
def Tryd.meq2_ren : Go.Shelf.Ren := ⟨fun | 7 => 36 | n => n, fun | 23 => 63 | 29 => 63 | 26 => 9 | 27 => 77 | 31 => 77 | 32 => 79 | 4 => 4 | 3 => 3 | 0 => 0 | 37 => 101 | n => n, fun | n => n⟩
theorem Tryd.meq2 : Go.Proofs.SlLaysEq.n7 Tryd.prog Tryd.meq2_ren := {
  mixed := by kernel_rfl
  f7 := ⟨Tryd.f36.name, by decide, Tryd.func36.trans (congrArg some (by kernel_rfl))⟩
  t0 := Tryd.underlying0
  a0 := Tryd.isAgg0
  z0 := Tryd.sizeOf0
  v0 := Tryd.zeroValue0
  t3 := Tryd.underlying3
  a3 := Tryd.isAgg3
  z3 := Tryd.sizeOf3
  v3 := Tryd.zeroValue3
  t4 := Tryd.underlying4
  a4 := Tryd.isAgg4
  z4 := Tryd.sizeOf4
  v4 := Tryd.zeroValue4
  t23 := Tryd.underlying63
  a23 := Tryd.isAgg63
  z23 := Tryd.sizeOf63
  v23 := Tryd.zeroValue63
  a26 := Tryd.isAgg9
  z26 := Tryd.sizeOf9
  a27 := Tryd.isAgg77
  z27 := Tryd.sizeOf77
  t29 := Tryd.underlying63
  a29 := Tryd.isAgg63
  z29 := Tryd.sizeOf63
  v29 := Tryd.zeroValue63
  a31 := Tryd.isAgg77
  z31 := Tryd.sizeOf77
  t32 := Tryd.underlying79
  a32 := Tryd.isAgg79
  z32 := Tryd.sizeOf79
  v32 := Tryd.zeroValue79
  t37 := Tryd.underlying101
  a37 := Tryd.isAgg101
  z37 := Tryd.sizeOf101 }
def Tryd.meq1_ren : Go.Shelf.Ren := ⟨fun | 7 => 34 | n => n, fun | 23 => 59 | 29 => 59 | 26 => 9 | 27 => 63 | 31 => 63 | 32 => 83 | 4 => 4 | 3 => 3 | 0 => 0 | 37 => 92 | n => n, fun | n => n⟩
theorem Tryd.meq1 : Go.Proofs.SlLaysEq.n7 Tryd.prog Tryd.meq1_ren := {
  mixed := by kernel_rfl
  f7 := ⟨Tryd.f34.name, by decide, Tryd.func34.trans (congrArg some (by kernel_rfl))⟩
  t0 := Tryd.underlying0
  a0 := Tryd.isAgg0
  z0 := Tryd.sizeOf0
  v0 := Tryd.zeroValue0
  t3 := Tryd.underlying3
  a3 := Tryd.isAgg3
  z3 := Tryd.sizeOf3
  v3 := Tryd.zeroValue3
  t4 := Tryd.underlying4
  a4 := Tryd.isAgg4
  z4 := Tryd.sizeOf4
  v4 := Tryd.zeroValue4
  t23 := Tryd.underlying59
  a23 := Tryd.isAgg59
  z23 := Tryd.sizeOf59
  v23 := Tryd.zeroValue59
  a26 := Tryd.isAgg9
  z26 := Tryd.sizeOf9
  a27 := Tryd.isAgg63
  z27 := Tryd.sizeOf63
  t29 := Tryd.underlying59
  a29 := Tryd.isAgg59
  z29 := Tryd.sizeOf59
  v29 := Tryd.zeroValue59
  a31 := Tryd.isAgg63
  z31 := Tryd.sizeOf63
  t32 := Tryd.underlying83
  a32 := Tryd.isAgg83
  z32 := Tryd.sizeOf83
  v32 := Tryd.zeroValue83
  t37 := Tryd.underlying92
  a37 := Tryd.isAgg92
  z37 := Tryd.sizeOf92 }
end Go.Proofs
