/- The variable errors.errorType, out of the row's condition (after the kit's worked example Toyas). -/
import Derived.Test.YtmhfbdeeebbloaaDoorRows
import Derived.Test.YtmhfbdeeebbloaaDoorErrs3
import Derived.Test.YtmhfbdeeebbloaaDoorLib2
import Derived.LaidHandle
import Derived.Stop.Joined
namespace Go.Proofs.YtmhfbdeeebbloaaDoor
open Go.ChangeShapes Go.WideShapes Go.RowKit
theorem errOwn : ownKnob Tryd.prog.godebug = none := by kernel_rfl
theorem errLaidOut : laidOutB Tryd.prog = true := by kernel_rfl
theorem errVar : Tryd.prog.globalNamed "errors.errorType" = some 0 := by kernel_rfl
theorem errRtype : (Tryd.prog.cutTypes.find? (·.1 == "internal/reflectlite.rtype")).map (·.2) = some 193 := by kernel_rfl
theorem errOneRow : ((List.range 250).filter fun t => Tryd.prog.rowNamed t [101, 114, 114, 111, 114]) = [28] := by kernel_rfl
theorem errSize : Tryd.prog.types.size = 250 := by kernel_rfl
/-- What the condition gives a walk. -/
theorem glob_of_laid {W : World} (h : laidMetH Tryd.prog [("errors.errorType", Rows.laid_errors_errorType)] W) : Glob W := by
  have h' : laidMet Tryd.prog [] W ∧ handlesMet Tryd.prog [("errors.errorType", Rows.laid_errors_errorType)] W := h
  obtain ⟨name, u, ty, e1, e2, e3, e4, e5⟩ := h'.2 _ (List.mem_singleton.2 rfl)
  have en : name = [101, 114, 114, 111, 114] := (Option.some.inj e1).symm
  subst en
  obtain rfl := Option.some.inj (errRtype.symm.trans e2)
  have hm : ty ∈ (List.range 250).filter fun t => Tryd.prog.rowNamed t [101, 114, 114, 111, 114] := List.mem_filter.2 ⟨List.mem_range.2 (by rw [← errSize]; exact e3), e4⟩
  rw [errOneRow] at hm
  obtain rfl := List.mem_singleton.1 hm
  have hh : typeHandle Tryd.prog 28 = .pointer (some ⟨5, 28, none⟩) := by kernel_rfl
  rw [hh] at e5
  unfold Glob
  simpa using World.var?_cell errVar e5 0
/-- A world that meets the condition. -/
noncomputable def errWorld (os : Os) : World :=
  let w0 := World.holding Tryd.prog os ⟨#[], #[], []⟩
  { w0 with heap := w0.heap.modify 0 fun
      | .cells _ t frozen => .cells #[.iface 193 (.agg #[.pointer (some ⟨5, 28, none⟩)])] t frozen
      | o => o }
theorem errWorld_met (os : Os) (args : Array Value) : laidMetH Tryd.prog [("errors.errorType", Rows.laid_errors_errorType)] ((errWorld os).forCall (fun _ _ => 0) ⟨#[], args, []⟩).memory :=
  laidMetH_of_parts (laidMet_nil _ _) (by kernel_rfl)
end Go.Proofs.YtmhfbdeeebbloaaDoor
