/-
  Which function of the program is slices.DeleteFunc at texts, with all that it reaches: laid out for the library's contract.
-/
import Derived.Shelf.SlicesE.DeleteFunc
import Derived.Ground.SlgfProg
import Derived.Test.YteifhbkhjkmhfaaDoorProg
namespace Go.Proofs
open Go.Shelf
def Tryd.delF_ren : Go.Shelf.Ren := ⟨fun | 10 => 66 | 6 => 86 | n => n, fun | 22 => 31 | 23 => 9 | 25 => 30 | 3 => 3 | 4 => 4 | 0 => 0 | n => n, fun | n => n⟩
theorem Tryd.delF : Go.Proofs.SlLaysH.n10 Tryd.prog Tryd.delF_ren := {
  mixed := by kernel_rfl
  f6 := ⟨Tryd.f86.name, by decide, Tryd.func86.trans (congrArg some (by kernel_rfl))⟩
  f10 := ⟨Tryd.f66.name, by decide, Tryd.func66.trans (congrArg some (by kernel_rfl))⟩
  t0 := Tryd.underlying0
  a0 := Tryd.isAgg0
  z0 := Tryd.sizeOf0
  v0 := Tryd.zeroValue0
  t3 := Tryd.underlying3
  a3 := Tryd.isAgg3
  z3 := Tryd.sizeOf3
  v3 := Tryd.zeroValue3
  t4 := Tryd.underlying4
  a4 := Tryd.isAgg4
  z4 := Tryd.sizeOf4
  v4 := Tryd.zeroValue4
  t22 := Tryd.underlying31
  a22 := Tryd.isAgg31
  z22 := Tryd.sizeOf31
  v22 := Tryd.zeroValue31
  a23 := Tryd.isAgg9
  z23 := Tryd.sizeOf9
  t25 := Tryd.underlying30
  a25 := Tryd.isAgg30
  z25 := Tryd.sizeOf30
  v25 := Tryd.zeroValue30 }
end Go.Proofs
