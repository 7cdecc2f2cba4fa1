/- slices.Insert at rows of strings: the library's contract laid at this dump. -/
import Derived.Test.YtppfggfmpmccpaaDoorProg
import Derived.Shelf.Spec.SlicesInsertGrow
namespace Go.Proofs.YtppfggfmpmccpaaDoor
def ins_ren : Go.Shelf.Ren := ⟨fun | 17 => 45 | 22 => 22 | 29 => 34 | 30 => 35 | 36 => 39 | n => n, fun | 24 => 25 | 9 => 9 | 3 => 3 | 4 => 4 | 0 => 0 | n => n, fun | n => n⟩
theorem ins_lays : Go.Proofs.Lays2.n22 Tryd.prog ins_ren := {
  mixed := by kernel_rfl
  f17 := Tryd.func45.trans (congrArg some (by kernel_rfl))
  f22 := Tryd.func22.trans (congrArg some (by kernel_rfl))
  f29 := Tryd.func34.trans (congrArg some (by kernel_rfl))
  f30 := Tryd.func35.trans (congrArg some (by kernel_rfl))
  f36 := Tryd.func39.trans (congrArg some (by kernel_rfl))
  t0 := Tryd.underlying0
  a0 := Tryd.isAgg0
  z0 := Tryd.sizeOf0
  v0 := Tryd.zeroValue0
  t3 := Tryd.underlying3
  a3 := Tryd.isAgg3
  z3 := Tryd.sizeOf3
  v3 := Tryd.zeroValue3
  t4 := Tryd.underlying4
  a4 := Tryd.isAgg4
  z4 := Tryd.sizeOf4
  v4 := Tryd.zeroValue4
  t9 := Tryd.underlying9
  a9 := Tryd.isAgg9
  z9 := Tryd.sizeOf9
  v9 := Tryd.zeroValue9
  t24 := Tryd.underlying25
  a24 := Tryd.isAgg25
  z24 := Tryd.sizeOf25
  v24 := Tryd.zeroValue25
  i9 := by kernel_rfl }
end Go.Proofs.YtppfggfmpmccpaaDoor
