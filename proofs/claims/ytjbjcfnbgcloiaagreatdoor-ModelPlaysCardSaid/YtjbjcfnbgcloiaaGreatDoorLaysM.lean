/- The shelf's layings for package model, in this program. -/
import Derived.Ground.SlbCloneProg
import Derived.Ground.SlgnProg
import Derived.Ground.SlgfProg
import Derived.Shelf.SlicesE.Clone
import Derived.Shelf.SlicesQ.IndexFunc
import Derived.Shelf.Bytes.SlClone
import Derived.Shelf.Bytes.SlEqualAll
import Derived.Shelf.SlMaps.Clone
import Derived.Shelf.SlMaps.DeleteFunc
import Derived.Shelf.SlMaps.Equal
import Derived.Test.YtjbjcfnbgcloiaaGreatDoorProg
set_option maxRecDepth 100000
namespace Go.Proofs
open Go.Shelf
def Tryz.bcloneL_ren : Go.Shelf.Ren := ⟨fun | 4 => 53 | n => n, fun | 22 => 30 | 4 => 4 | 5 => 5 | n => n, fun | n => n⟩
theorem Tryz.bcloneL : Go.Proofs.SlLaysK.n4 Tryz.prog Tryz.bcloneL_ren := {
  mixed := by kernel_rfl
  f4 := Tryz.func53.trans (congrArg some (by kernel_rfl))
  t4 := Tryz.underlying4
  a4 := Tryz.isAgg4
  z4 := Tryz.sizeOf4
  v4 := Tryz.zeroValue4
  t22 := Tryz.underlying30
  a22 := Tryz.isAgg30
  z22 := Tryz.sizeOf30
  v22 := Tryz.zeroValue30
  t5 := Tryz.underlying5
  i5 := by kernel_rfl }
def Tryz.bequalL_ren : Go.Shelf.Ren := ⟨fun | 115 => 23 | n => n, fun | 37 => 30 | 4 => 4 | 9 => 9 | 5 => 5 | n => n, fun | n => n⟩
theorem Tryz.bequalL : Go.Proofs.Lays.nb115 Tryz.prog Tryz.bequalL_ren := {
  mixed := by kernel_rfl
  f115 := Tryz.func23.trans (congrArg some (by kernel_rfl))
  t4 := Tryz.underlying4
  a4 := Tryz.isAgg4
  z4 := Tryz.sizeOf4
  v4 := Tryz.zeroValue4
  t9 := Tryz.underlying9
  a9 := Tryz.isAgg9
  z9 := Tryz.sizeOf9
  v9 := Tryz.zeroValue9
  t37 := Tryz.underlying30
  a37 := Tryz.isAgg30
  z37 := Tryz.sizeOf30
  v37 := Tryz.zeroValue30
  t5 := Tryz.underlying5
  a5 := Tryz.isAgg5
  z5 := Tryz.sizeOf5
  v5 := Tryz.zeroValue5 }
def Tryz.cloneK_ren : Go.Shelf.Ren := ⟨fun | 41 => 21 | n => n, fun | 22 => 64 | 23 => 67 | 4 => 4 | n => n, fun | n => n⟩
theorem Tryz.cloneK : Go.Proofs.SlLaysE0.n41 Tryz.prog Tryz.cloneK_ren := {
  mixed := by kernel_rfl
  f41 := ⟨Tryz.f21.name, by decide, Tryz.func21.trans (congrArg some (by kernel_rfl))⟩
  t4 := Tryz.underlying4
  a4 := Tryz.isAgg4
  z4 := Tryz.sizeOf4
  v4 := Tryz.zeroValue4
  t22 := Tryz.underlying64
  a22 := Tryz.isAgg64
  z22 := Tryz.sizeOf64
  v22 := Tryz.zeroValue64 }
def Tryz.indexK_ren : Go.Shelf.Ren := ⟨fun | 6 => 82 | n => n, fun | 22 => 64 | 23 => 67 | 25 => 139 | 3 => 3 | 0 => 0 | 4 => 4 | n => n, fun | n => n⟩
theorem Tryz.indexK : Go.Proofs.SlLaysH0.n6 Tryz.prog Tryz.indexK_ren := {
  mixed := by kernel_rfl
  f6 := ⟨Tryz.f82.name, by decide, Tryz.func82.trans (congrArg some (by kernel_rfl))⟩
  t0 := Tryz.underlying0
  a0 := Tryz.isAgg0
  z0 := Tryz.sizeOf0
  v0 := Tryz.zeroValue0
  t3 := Tryz.underlying3
  a3 := Tryz.isAgg3
  z3 := Tryz.sizeOf3
  v3 := Tryz.zeroValue3
  t4 := Tryz.underlying4
  a4 := Tryz.isAgg4
  z4 := Tryz.sizeOf4
  v4 := Tryz.zeroValue4
  t22 := Tryz.underlying64
  a22 := Tryz.isAgg64
  z22 := Tryz.sizeOf64
  v22 := Tryz.zeroValue64
  t25 := Tryz.underlying139
  a25 := Tryz.isAgg139
  z25 := Tryz.sizeOf139
  v25 := Tryz.zeroValue139 }
def Tryz.mcloneK_ren : Go.Shelf.Ren := ⟨fun | 5 => 56 | 7 => 84 | n => n, fun | 23 => 63 | 25 => 9 | 3 => 64 | 4 => 4 | 20 => 20 | n => n, fun | n => n⟩
theorem Tryz.mcloneK : Go.Proofs.SlLaysW.n5 Tryz.prog Tryz.mcloneK_ren := {
  mixed := by kernel_rfl
  f5 := ⟨Tryz.f56.name, by decide, Tryz.func56.trans (congrArg some (by kernel_rfl))⟩
  f7 := Tryz.func84.trans (congrArg some (by kernel_rfl))
  t4 := Tryz.underlying4
  a4 := Tryz.isAgg4
  z4 := Tryz.sizeOf4
  v4 := Tryz.zeroValue4
  t20 := Tryz.underlying20
  a20 := Tryz.isAgg20
  z20 := Tryz.sizeOf20
  v20 := Tryz.zeroValue20
  t23 := Tryz.underlying63
  a23 := Tryz.isAgg63
  z23 := Tryz.sizeOf63
  v23 := Tryz.zeroValue63 }
def Tryz.mdelK_ren : Go.Shelf.Ren := ⟨fun | 5 => 57 | n => n, fun | 23 => 63 | 26 => 9 | 24 => 64 | 27 => 109 | 0 => 0 | 4 => 4 | n => n, fun | n => n⟩
theorem Tryz.mdelK : Go.Proofs.SlLaysDf.n5 Tryz.prog Tryz.mdelK_ren := {
  mixed := by kernel_rfl
  f5 := ⟨Tryz.f57.name, by decide, Tryz.func57.trans (congrArg some (by kernel_rfl))⟩
  t0 := Tryz.underlying0
  a0 := Tryz.isAgg0
  z0 := Tryz.sizeOf0
  v0 := Tryz.zeroValue0
  t4 := Tryz.underlying4
  a4 := Tryz.isAgg4
  z4 := Tryz.sizeOf4
  v4 := Tryz.zeroValue4
  t23 := Tryz.underlying63
  a23 := Tryz.isAgg63
  z23 := Tryz.sizeOf63
  v23 := Tryz.zeroValue63
  a24 := Tryz.isAgg64
  z24 := Tryz.sizeOf64
  a26 := Tryz.isAgg9
  z26 := Tryz.sizeOf9
  t27 := Tryz.underlying109
  a27 := Tryz.isAgg109
  z27 := Tryz.sizeOf109
  v27 := Tryz.zeroValue109 }
def Tryz.meq2_ren : Go.Shelf.Ren := ⟨fun | 7 => 28 | n => n, fun | 23 => 63 | 29 => 63 | 26 => 9 | 27 => 64 | 31 => 64 | 32 => 75 | 4 => 4 | 3 => 3 | 0 => 0 | 37 => 107 | n => n, fun | n => n⟩
theorem Tryz.meq2 : Go.Proofs.SlLaysEq.n7 Tryz.prog Tryz.meq2_ren := {
  mixed := by kernel_rfl
  f7 := ⟨Tryz.f28.name, by decide, Tryz.func28.trans (congrArg some (by kernel_rfl))⟩
  t0 := Tryz.underlying0
  a0 := Tryz.isAgg0
  z0 := Tryz.sizeOf0
  v0 := Tryz.zeroValue0
  t3 := Tryz.underlying3
  a3 := Tryz.isAgg3
  z3 := Tryz.sizeOf3
  v3 := Tryz.zeroValue3
  t4 := Tryz.underlying4
  a4 := Tryz.isAgg4
  z4 := Tryz.sizeOf4
  v4 := Tryz.zeroValue4
  t23 := Tryz.underlying63
  a23 := Tryz.isAgg63
  z23 := Tryz.sizeOf63
  v23 := Tryz.zeroValue63
  a26 := Tryz.isAgg9
  z26 := Tryz.sizeOf9
  a27 := Tryz.isAgg64
  z27 := Tryz.sizeOf64
  t29 := Tryz.underlying63
  a29 := Tryz.isAgg63
  z29 := Tryz.sizeOf63
  v29 := Tryz.zeroValue63
  a31 := Tryz.isAgg64
  z31 := Tryz.sizeOf64
  t32 := Tryz.underlying75
  a32 := Tryz.isAgg75
  z32 := Tryz.sizeOf75
  v32 := Tryz.zeroValue75
  t37 := Tryz.underlying107
  a37 := Tryz.isAgg107
  z37 := Tryz.sizeOf107 }
def Tryz.meq1_ren : Go.Shelf.Ren := ⟨fun | 7 => 26 | n => n, fun | 23 => 57 | 29 => 57 | 26 => 9 | 27 => 63 | 31 => 63 | 32 => 79 | 4 => 4 | 3 => 3 | 0 => 0 | 37 => 106 | n => n, fun | n => n⟩
theorem Tryz.meq1 : Go.Proofs.SlLaysEq.n7 Tryz.prog Tryz.meq1_ren := {
  mixed := by kernel_rfl
  f7 := ⟨Tryz.f26.name, by decide, Tryz.func26.trans (congrArg some (by kernel_rfl))⟩
  t0 := Tryz.underlying0
  a0 := Tryz.isAgg0
  z0 := Tryz.sizeOf0
  v0 := Tryz.zeroValue0
  t3 := Tryz.underlying3
  a3 := Tryz.isAgg3
  z3 := Tryz.sizeOf3
  v3 := Tryz.zeroValue3
  t4 := Tryz.underlying4
  a4 := Tryz.isAgg4
  z4 := Tryz.sizeOf4
  v4 := Tryz.zeroValue4
  t23 := Tryz.underlying57
  a23 := Tryz.isAgg57
  z23 := Tryz.sizeOf57
  v23 := Tryz.zeroValue57
  a26 := Tryz.isAgg9
  z26 := Tryz.sizeOf9
  a27 := Tryz.isAgg63
  z27 := Tryz.sizeOf63
  t29 := Tryz.underlying57
  a29 := Tryz.isAgg57
  z29 := Tryz.sizeOf57
  v29 := Tryz.zeroValue57
  a31 := Tryz.isAgg63
  z31 := Tryz.sizeOf63
  t32 := Tryz.underlying79
  a32 := Tryz.isAgg79
  z32 := Tryz.sizeOf79
  v32 := Tryz.zeroValue79
  t37 := Tryz.underlying106
  a37 := Tryz.isAgg106
  z37 := Tryz.sizeOf106 }
end Go.Proofs
