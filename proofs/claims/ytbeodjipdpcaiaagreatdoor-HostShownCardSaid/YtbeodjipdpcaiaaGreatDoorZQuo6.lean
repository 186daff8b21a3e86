
/- ref02.Written at base 16, two digits: the walk. -/
import Derived.Test.YtbeodjipdpcaiaaGreatDoorZMoreS
import Derived.Test.YtbeodjipdpcaiaaGreatDoorZQuo0s
import Derived.Test.YtbeodjipdpcaiaaGreatDoorProg
import Derived.WalkKit
import Derived.BigQuiet
-- @auto
namespace Go.Proofs.YtbeodjipdpcaiaaGreatDoor
open Go.RowKit
theorem slice_one (k : IntKind) (S : ByteArray) (d : Nat) (h : d + 1 ≤ S.size) (x : ByteArray) (hx : S.extract d (d + 1) = x) (W : World) : (Instr.slice 9 (.string S) (some (.int k (d : Int))) (some (.int k ((d : Int) + 1))) none).run Tryz.prog W = .ok (.string x) W := by
  have e1 : ((d : Int) + 1).toNat = d + 1 := by omega
  have e2 : (0 : Int) ≤ (d : Int) + 1 := by omega
  have e3 : (d : Int) + 1 ≤ (S.size : Int) := by omega
  have e4 : (d : Int) ≤ (d : Int) + 1 := by omega
  simp [Instr.slice, run_underlying Tryz.underlying9, Instr.sliceBounds, run_sliceBound, e1, e2, e3, e4, hx]
end Go.Proofs.YtbeodjipdpcaiaaGreatDoor
