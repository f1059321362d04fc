/- math/bits.TrailingZeros64 at this program: the library's contract Lays7.n29 laid at the numbers of this translation (written by the kit's lay-plain tool, the numbers by name). -/
import Derived.Test.YtipfpcfepfkehaaDoorProg
import Derived.Shelf.Lays7
namespace Go.Proofs.YtipfpcfepfkehaaDoor
open Go.Shelf
def Tryd.lays29_ren : Go.Shelf.Ren := ⟨fun | 29 => 25 | n => n, fun | 22 => 57 | 3 => 3 | 4 => 4 | 25 => 60 | 54 => 59 | 0 => 0 | 5 => 5 | n => n, fun | 1 => 0 | n => n⟩
theorem Tryd.lays29 : Go.Proofs.Lays7.n29 Tryd.prog Tryd.lays29_ren := {
  mixed := by kernel_rfl
  f29 := Tryd.func25.trans (congrArg some (by kernel_rfl))
  t0 := Tryd.underlying0
  a0 := Tryd.isAgg0
  z0 := Tryd.sizeOf0
  v0 := Tryd.zeroValue0
  i0 := by kernel_rfl
  t3 := Tryd.underlying3
  a3 := Tryd.isAgg3
  z3 := Tryd.sizeOf3
  v3 := Tryd.zeroValue3
  i3 := by kernel_rfl
  t4 := Tryd.underlying4
  a4 := Tryd.isAgg4
  z4 := Tryd.sizeOf4
  v4 := Tryd.zeroValue4
  i4 := by kernel_rfl
  t5 := Tryd.underlying5
  a5 := Tryd.isAgg5
  z5 := Tryd.sizeOf5
  v5 := Tryd.zeroValue5
  i5 := by kernel_rfl
  t22 := Tryd.underlying57
  a22 := Tryd.isAgg57
  z22 := Tryd.sizeOf57
  v22 := Tryd.zeroValue57
  i22 := by kernel_rfl
  t25 := Tryd.underlying60
  a25 := Tryd.isAgg60
  z25 := Tryd.sizeOf60
  v25 := Tryd.zeroValue60
  i25 := by kernel_rfl
  t54 := Tryd.underlying59
  a54 := Tryd.isAgg59
  z54 := Tryd.sizeOf59
  g1 := by kernel_rfl }
end Go.Proofs.YtipfpcfepfkehaaDoor
