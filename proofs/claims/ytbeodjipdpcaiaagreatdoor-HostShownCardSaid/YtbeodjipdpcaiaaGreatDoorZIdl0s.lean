/- Idl0, Qb0 in one text (a claim holds at most 60 files). -/
import Derived.Lib.Bytealg
import Derived.Test.YtbeodjipdpcaiaaGreatDoorZOwn0s
import Derived.WalkKit
import Derived.BigQuiet
namespace Go.Proofs.YtbeodjipdpcaiaaGreatDoor
section
end
section
open Go.RowKit
/-- The worlds in which whatever lay below B lies as it lay. -/
def BW (B : Nat) (W : World) : Type := {w' : World // Below B W w'}
instance (B : Nat) (W : World) : Nonempty (BW B W) := ⟨⟨W, Below.refl B W⟩⟩
def BW.w {B : Nat} {W : World} (n : BW B W) : World := n.1
theorem BW.below {B : Nat} {W : World} (n : BW B W) : Below B W n.w := n.2
theorem wp_region_quietB {P : Program} {id : Nat} {Q : Exit → Act → World → Prop} {a : Act} {w : World} {l : List Oper} (B : Nat) (hm : P.follows .mixedOrders = true) (hB : Region.lexB .any l.toArray = true)
    (h : wpQuiet P l.toArray (fun w' => ∃ n : BW B w, w' = n.w) (fun a' => ∀ w', (∃ n : BW B w, w' = n.w) → Q .normal a' w') l a) : (Code.region id l.toArray true).wp P Q a w :=
  wp_region_quiet (C := fun w' => ∃ n : BW B w, w' = n.w) hm hB ⟨⟨w.drew, (Below.refl B w).drew⟩, rfl⟩ (by simpa using h)
theorem quiet_callB {P : Program} {f : FuncId} {args : Array Value} {B : Nat} {W : World} {n : BW B W} {v : Value} (h : Calls P f args n.w fun e w' => e = .returned v ∧ Below n.w.heap.size n.w w') (hs : B ≤ W.heap.size) : Calls P f args n.w fun e w' => e = .returned v ∧ ∃ m : BW B W, w' = m.w :=
  h.mono fun _e w' ⟨h1, h2⟩ => ⟨h1, ⟨w', n.below.trans (h2.mono (Nat.le_trans hs n.below.size))⟩, rfl⟩
end
end Go.Proofs.YtbeodjipdpcaiaaGreatDoor
