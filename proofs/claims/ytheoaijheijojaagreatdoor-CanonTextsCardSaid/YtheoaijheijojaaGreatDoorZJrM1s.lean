/- JrM1, JrM2 in one text (a claim holds at most 60 files). -/
import Derived.Test.YtheoaijheijojaaGreatDoorZJrP0s
namespace Go.Proofs.YtheoaijheijojaaGreatDoor
section
open Go.RowKit
section
variable {w w' : World} {base E D X : Nat} {bv nv uv : Value} {m : Bd} {s s' : RS} {cs : Array Value} {fr : Nat × Nat}
theorem TKept.fresh (h : TKept w w') {p : Addr} (hp : w.heap.size ≤ p.block) (u : Value) : TKept w (w'.setCell p u) := fun k ds f hk => by
  rw [Below.heap_setCell _ _ _ _ (show k ≠ p.block by have := heap_lt hk; omega)]; exact h k ds f hk
end
end
section
open Go.RowKit
section
variable {w : World} {base E D : Nat} {bv : Value} {m : Bd} {s : RS}
end
end
end Go.Proofs.YtheoaijheijojaaGreatDoor
