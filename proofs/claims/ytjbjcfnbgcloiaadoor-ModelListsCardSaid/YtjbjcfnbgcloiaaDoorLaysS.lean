/- The shelf's layings for slices.Clone and the insertion sort, in this program. -/
import Derived.Ground.SlsfProg
import Derived.Ground.SlgnProg
import Derived.Shelf.SlicesE.Clone
import Derived.Shelf.SlSortCmp.KitK
import Derived.Test.YtjbjcfnbgcloiaaDoorProg
namespace Go.Proofs
open Go.Shelf
def Tryd.insE_ren : Go.Shelf.Ren := ⟨fun | 20 => 99 | n => n, fun | 24 => 49 | 22 => 37 | 3 => 3 | 25 => 119 | 4 => 4 | 0 => 0 | n => n, fun | n => n⟩
theorem Tryd.insE : Go.Proofs.SlLaysF0.n20 Tryd.prog Tryd.insE_ren := {
  mixed := by kernel_rfl
  f20 := ⟨Tryd.f99.name, by decide, Tryd.func99.trans (congrArg some (by kernel_rfl))⟩
  t0 := Tryd.underlying0
  a0 := Tryd.isAgg0
  z0 := Tryd.sizeOf0
  v0 := Tryd.zeroValue0
  t3 := Tryd.underlying3
  a3 := Tryd.isAgg3
  z3 := Tryd.sizeOf3
  v3 := Tryd.zeroValue3
  t4 := Tryd.underlying4
  a4 := Tryd.isAgg4
  z4 := Tryd.sizeOf4
  v4 := Tryd.zeroValue4
  t22 := Tryd.underlying37
  a22 := Tryd.isAgg37
  z22 := Tryd.sizeOf37
  v22 := Tryd.zeroValue37
  t25 := Tryd.underlying119
  a25 := Tryd.isAgg119
  z25 := Tryd.sizeOf119
  v25 := Tryd.zeroValue119 }
def Tryd.cloneE_ren : Go.Shelf.Ren := ⟨fun | 41 => 71 | n => n, fun | 22 => 37 | 23 => 49 | 4 => 4 | n => n, fun | n => n⟩
theorem Tryd.cloneE : Go.Proofs.SlLaysE0.n41 Tryd.prog Tryd.cloneE_ren := {
  mixed := by kernel_rfl
  f41 := ⟨Tryd.f71.name, by decide, Tryd.func71.trans (congrArg some (by kernel_rfl))⟩
  t4 := Tryd.underlying4
  a4 := Tryd.isAgg4
  z4 := Tryd.sizeOf4
  v4 := Tryd.zeroValue4
  t22 := Tryd.underlying37
  a22 := Tryd.isAgg37
  z22 := Tryd.sizeOf37
  v22 := Tryd.zeroValue37 }
end Go.Proofs
