/- The shelf's layings for slices.Clone and the insertion sort, in this program. -/
import Derived.Ground.SlsfProg
import Derived.Ground.SlgnProg
import Derived.Shelf.SlicesE.Clone
import Derived.Shelf.SlSortCmp.KitK
import Derived.Test.YtjbjcfnbgcloiaaGreatDoorProg
namespace Go.Proofs
open Go.Shelf
def Tryz.insE_ren : Go.Shelf.Ren := ⟨fun | 20 => 129 | n => n, fun | 24 => 111 | 22 => 39 | 3 => 3 | 25 => 163 | 4 => 4 | 0 => 0 | n => n, fun | n => n⟩
theorem Tryz.insE : Go.Proofs.SlLaysF0.n20 Tryz.prog Tryz.insE_ren := {
  mixed := by kernel_rfl
  f20 := ⟨Tryz.f129.name, by decide, Tryz.func129.trans (congrArg some (by kernel_rfl))⟩
  t0 := Tryz.underlying0
  a0 := Tryz.isAgg0
  z0 := Tryz.sizeOf0
  v0 := Tryz.zeroValue0
  t3 := Tryz.underlying3
  a3 := Tryz.isAgg3
  z3 := Tryz.sizeOf3
  v3 := Tryz.zeroValue3
  t4 := Tryz.underlying4
  a4 := Tryz.isAgg4
  z4 := Tryz.sizeOf4
  v4 := Tryz.zeroValue4
  t22 := Tryz.underlying39
  a22 := Tryz.isAgg39
  z22 := Tryz.sizeOf39
  v22 := Tryz.zeroValue39
  t25 := Tryz.underlying163
  a25 := Tryz.isAgg163
  z25 := Tryz.sizeOf163
  v25 := Tryz.zeroValue163 }
def Tryz.cloneE_ren : Go.Shelf.Ren := ⟨fun | 41 => 112 | n => n, fun | 22 => 39 | 23 => 111 | 4 => 4 | n => n, fun | n => n⟩
theorem Tryz.cloneE : Go.Proofs.SlLaysE0.n41 Tryz.prog Tryz.cloneE_ren := {
  mixed := by kernel_rfl
  f41 := ⟨Tryz.f112.name, by decide, Tryz.func112.trans (congrArg some (by kernel_rfl))⟩
  t4 := Tryz.underlying4
  a4 := Tryz.isAgg4
  z4 := Tryz.sizeOf4
  v4 := Tryz.zeroValue4
  t22 := Tryz.underlying39
  a22 := Tryz.isAgg39
  z22 := Tryz.sizeOf39
  v22 := Tryz.zeroValue39 }
end Go.Proofs
