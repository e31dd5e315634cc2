/- The shelf's layings for slices.Clone and the insertion sort, in this program. -/
import Derived.Ground.SlsfProg
import Derived.Ground.SlgnProg
import Derived.Shelf.SlicesE.Clone
import Derived.Shelf.SlSortCmp.KitK
import Derived.Test.YtgaejaadjmcckaaProg
namespace Go.Proofs
open Go.Shelf
def Try.insE_ren : Go.Shelf.Ren := ⟨fun | 20 => 38 | n => n, fun | 24 => 32 | 22 => 22 | 3 => 3 | 25 => 58 | 4 => 4 | 0 => 0 | n => n, fun | n => n⟩
theorem Try.insE : Go.Proofs.SlLaysF0.n20 Try.prog Try.insE_ren := {
  mixed := by kernel_rfl
  f20 := ⟨Try.f38.name, by decide, Try.func38.trans (congrArg some (by kernel_rfl))⟩
  t0 := Try.underlying0
  a0 := Try.isAgg0
  z0 := Try.sizeOf0
  v0 := Try.zeroValue0
  t3 := Try.underlying3
  a3 := Try.isAgg3
  z3 := Try.sizeOf3
  v3 := Try.zeroValue3
  t4 := Try.underlying4
  a4 := Try.isAgg4
  z4 := Try.sizeOf4
  v4 := Try.zeroValue4
  t22 := Try.underlying22
  a22 := Try.isAgg22
  z22 := Try.sizeOf22
  v22 := Try.zeroValue22
  t25 := Try.underlying58
  a25 := Try.isAgg58
  z25 := Try.sizeOf58
  v25 := Try.zeroValue58 }
def Try.cloneE_ren : Go.Shelf.Ren := ⟨fun | 41 => 23 | n => n, fun | 22 => 22 | 23 => 32 | 4 => 4 | n => n, fun | n => n⟩
theorem Try.cloneE : Go.Proofs.SlLaysE0.n41 Try.prog Try.cloneE_ren := {
  mixed := by kernel_rfl
  f41 := ⟨Try.f23.name, by decide, Try.func23.trans (congrArg some (by kernel_rfl))⟩
  t4 := Try.underlying4
  a4 := Try.isAgg4
  z4 := Try.sizeOf4
  v4 := Try.zeroValue4
  t22 := Try.underlying22
  a22 := Try.isAgg22
  z22 := Try.sizeOf22
  v22 := Try.zeroValue22 }
end Go.Proofs
