import Derived.Shelf.SlicesE.DeleteFunc
import Derived.Ground.SlgfProg
import Derived.Lib.SliceRun
import Derived.Test.YtknfkhackmnnaaaProg
namespace Go.Proofs
open Go.Shelf
def Try.laysDf_ren : Go.Shelf.Ren := ⟨fun | 10 => 48 | 6 => 71 | n => n, fun | 22 => 24 | 23 => 3 | 25 => 30 | 3 => 3 | 4 => 4 | 0 => 0 | n => n, fun | n => n⟩
theorem Try.laysDf : Go.Proofs.SlLaysH.n10 Try.prog Try.laysDf_ren := {
  mixed := by kernel_rfl
  f6 := ⟨Try.f71.name, by decide, Try.func71.trans (congrArg some (by kernel_rfl))⟩
  f10 := ⟨Try.f48.name, by decide, Try.func48.trans (congrArg some (by kernel_rfl))⟩
  t0 := Try.underlying0
  a0 := Try.isAgg0
  z0 := Try.sizeOf0
  v0 := Try.zeroValue0
  t3 := Try.underlying3
  a3 := Try.isAgg3
  z3 := Try.sizeOf3
  v3 := Try.zeroValue3
  t4 := Try.underlying4
  a4 := Try.isAgg4
  z4 := Try.sizeOf4
  v4 := Try.zeroValue4
  t22 := Try.underlying24
  a22 := Try.isAgg24
  z22 := Try.sizeOf24
  v22 := Try.zeroValue24
  a23 := Try.isAgg3
  z23 := Try.sizeOf3
  t25 := Try.underlying30
  a25 := Try.isAgg30
  z25 := Try.sizeOf30
  v25 := Try.zeroValue30 }
end Go.Proofs
