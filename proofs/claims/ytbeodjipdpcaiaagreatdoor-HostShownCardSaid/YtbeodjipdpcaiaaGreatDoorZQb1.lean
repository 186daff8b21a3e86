/- A whole struct loaded in a drawn region as one step. Nothing of the program. -/
import Derived.Test.YtbeodjipdpcaiaaGreatDoorZMoreS
import Derived.Test.YtbeodjipdpcaiaaGreatDoorZIdl0s
namespace Go.Proofs.YtbeodjipdpcaiaaGreatDoor
open Go.RowKit
theorem quiet_ldRow {P : Program} {C : World → Prop} {a : Act} {o : Oper} {K : Act → Prop} (t : TypeId) (p : Addr) (v : Value) (hl : ∀ w, C w → (loadVar t p).run P w = .ok v w) (x : Operand) (h : o.op = .load t x) (hx : a.eval x = .pointer (some p)) (hk : K (a.put o.dst v)) : o.quiet P a C K :=
  ⟨v, fun w hw => by
    unfold Oper.quietAt
    rw [show (execOp a.eval o).run P w = .ok (.value v) w from by simp [execOp, h, hx, Instr.loadAt, Instr.sureAddr, hl w hw, Result.andThen]]
    exact ⟨rfl, rfl⟩, hk⟩
end Go.Proofs.YtbeodjipdpcaiaaGreatDoor
