/-
  DERIVED: THE SHELF's CONTRACTS AT THIS DUMP, IN PLAIN WORDS (tools/lay-plain.mjs out of 'TryzShelf.lean', which tools/lay-shelf.mjs wrote): THE SAME DECLARATIONS UNDER THE SAME NAMES: 'import', 'namespace', 'open', 'def', 'theorem' AND NOTHING ELSE: no command of the shelf's: FOR A HAND-IN. Each laying: the table of numbers ('.._ren') and one theorem, a field a fact of the dump's own or the kernel's comparison; each contract: ONE APPLICATION.
-/
import Derived.Shelf.SlicesQ.IndexFunc
import Derived.Ground.SlgfProg
import Derived.Shelf.SlGeneric
import Derived.Test.YtcaiibkgajhohaaGreatDoorProg
namespace Go.Proofs
open Go.Shelf
def Tryz.idxClass_ren : Go.Shelf.Ren := ⟨fun | 6 => 158 | n => n, fun | 22 => 260 | 23 => 233 | 25 => 262 | 3 => 3 | 0 => 0 | 4 => 4 | n => n, fun | n => n⟩
theorem Tryz.idxClass : Go.Proofs.SlLaysH0.n6 Tryz.prog Tryz.idxClass_ren := {
  mixed := by kernel_rfl
  f6 := ⟨Tryz.f158.name, by decide, Tryz.func158.trans (congrArg some (by kernel_rfl))⟩
  t0 := Tryz.underlying0
  a0 := Tryz.isAgg0
  z0 := Tryz.sizeOf0
  v0 := Tryz.zeroValue0
  t3 := Tryz.underlying3
  a3 := Tryz.isAgg3
  z3 := Tryz.sizeOf3
  v3 := Tryz.zeroValue3
  t4 := Tryz.underlying4
  a4 := Tryz.isAgg4
  z4 := Tryz.sizeOf4
  v4 := Tryz.zeroValue4
  t22 := Tryz.underlying260
  a22 := Tryz.isAgg260
  z22 := Tryz.sizeOf260
  v22 := Tryz.zeroValue260
  t25 := Tryz.underlying262
  a25 := Tryz.isAgg262
  z25 := Tryz.sizeOf262
  v25 := Tryz.zeroValue262 }
def Tryz.idxVar_ren : Go.Shelf.Ren := ⟨fun | 6 => 197 | n => n, fun | 22 => 25 | 23 => 103 | 25 => 305 | 3 => 3 | 0 => 0 | 4 => 4 | n => n, fun | n => n⟩
theorem Tryz.idxVar : Go.Proofs.SlLaysH0.n6 Tryz.prog Tryz.idxVar_ren := {
  mixed := by kernel_rfl
  f6 := ⟨Tryz.f197.name, by decide, Tryz.func197.trans (congrArg some (by kernel_rfl))⟩
  t0 := Tryz.underlying0
  a0 := Tryz.isAgg0
  z0 := Tryz.sizeOf0
  v0 := Tryz.zeroValue0
  t3 := Tryz.underlying3
  a3 := Tryz.isAgg3
  z3 := Tryz.sizeOf3
  v3 := Tryz.zeroValue3
  t4 := Tryz.underlying4
  a4 := Tryz.isAgg4
  z4 := Tryz.sizeOf4
  v4 := Tryz.zeroValue4
  t22 := Tryz.underlying25
  a22 := Tryz.isAgg25
  z22 := Tryz.sizeOf25
  v22 := Tryz.zeroValue25
  t25 := Tryz.underlying305
  a25 := Tryz.isAgg305
  z25 := Tryz.sizeOf305
  v25 := Tryz.zeroValue305 }
end Go.Proofs
