/- A function of Go's library in this program is the shelf's own (Lays7.n29). -/
import Derived.Shelf.Lays7
import Derived.Test.YtplefbcgpbdkfaaDoorProg
set_option linter.all false
namespace Go.Proofs
open Go Go.Shelf
def YtplefbcgpbdkfaaDoorTzR : Go.Shelf.Ren := ⟨fun | 29 => 84 | n => n, fun | 22 => 22 | 3 => 3 | 4 => 4 | 25 => 133 | 54 => 144 | 0 => 0 | 5 => 5 | n => n, fun | 1 => 0 | n => n⟩
theorem YtplefbcgpbdkfaaDoorTz : Go.Proofs.Lays7.n29 Tryd.prog YtplefbcgpbdkfaaDoorTzR where
  mixed := by kernel_rfl
  f29 := Tryd.func84.trans (congrArg some (by kernel_rfl))
  t0 := Tryd.underlying0
  a0 := Tryd.isAgg0
  z0 := Tryd.sizeOf0
  v0 := Tryd.zeroValue0
  i0 := by kernel_rfl
  t3 := Tryd.underlying3
  a3 := Tryd.isAgg3
  z3 := Tryd.sizeOf3
  v3 := Tryd.zeroValue3
  i3 := by kernel_rfl
  t4 := Tryd.underlying4
  a4 := Tryd.isAgg4
  z4 := Tryd.sizeOf4
  v4 := Tryd.zeroValue4
  i4 := by kernel_rfl
  t5 := Tryd.underlying5
  a5 := Tryd.isAgg5
  z5 := Tryd.sizeOf5
  v5 := Tryd.zeroValue5
  i5 := by kernel_rfl
  t22 := Tryd.underlying22
  a22 := Tryd.isAgg22
  z22 := Tryd.sizeOf22
  v22 := Tryd.zeroValue22
  i22 := by kernel_rfl
  t25 := Tryd.underlying133
  a25 := Tryd.isAgg133
  z25 := Tryd.sizeOf133
  v25 := Tryd.zeroValue133
  i25 := by kernel_rfl
  t54 := Tryd.underlying144
  a54 := Tryd.isAgg144
  z54 := Tryd.sizeOf144
  g1 := by kernel_rfl
end Go.Proofs
