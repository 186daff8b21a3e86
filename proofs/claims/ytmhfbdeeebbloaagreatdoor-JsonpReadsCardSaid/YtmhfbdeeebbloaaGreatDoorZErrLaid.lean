/- The variable errors.errorType, out of the row's condition (after the kit's worked example Toyas). -/
import Derived.Test.YtmhfbdeeebbloaaGreatDoorRows
import Derived.Test.YtmhfbdeeebbloaaGreatDoorZErrs1s
import Derived.Test.YtmhfbdeeebbloaaGreatDoorZLib2
import Derived.LaidHandle
import Derived.Stop.Joined
namespace Go.Proofs.YtmhfbdeeebbloaaGreatDoor
open Go.ChangeShapes Go.WideShapes Go.RowKit
theorem errOwn : ownKnob Tryz.prog.godebug = none := by kernel_rfl
theorem errLaidOut : laidOutB Tryz.prog = true := by kernel_rfl
theorem errVar : Tryz.prog.globalNamed "errors.errorType" = some 1 := by kernel_rfl
theorem errRtype : (Tryz.prog.cutTypes.find? (·.1 == "internal/reflectlite.rtype")).map (·.2) = some 146 := by kernel_rfl
theorem errOneRow : ((List.range 232).filter fun t => Tryz.prog.rowNamed t [101, 114, 114, 111, 114]) = [26] := by kernel_rfl
theorem errSize : Tryz.prog.types.size = 232 := by kernel_rfl
/-- What the condition gives a walk. -/
theorem glob_of_laid {W : World} (h : laidMetH Tryz.prog [("errors.errorType", Rows.laid_errors_errorType)] W) : Glob W := by
  have h' : laidMet Tryz.prog [] W ∧ handlesMet Tryz.prog [("errors.errorType", Rows.laid_errors_errorType)] W := h
  obtain ⟨name, u, ty, e1, e2, e3, e4, e5⟩ := h'.2 _ (List.mem_singleton.2 rfl)
  have en : name = [101, 114, 114, 111, 114] := (Option.some.inj e1).symm
  subst en
  obtain rfl := Option.some.inj (errRtype.symm.trans e2)
  have hm : ty ∈ (List.range 232).filter fun t => Tryz.prog.rowNamed t [101, 114, 114, 111, 114] := List.mem_filter.2 ⟨List.mem_range.2 (by rw [← errSize]; exact e3), e4⟩
  rw [errOneRow] at hm
  obtain rfl := List.mem_singleton.1 hm
  have hh : typeHandle Tryz.prog 26 = .pointer (some ⟨5, 26, none⟩) := by kernel_rfl
  rw [hh] at e5
  unfold Glob
  simpa using World.var?_cell errVar e5 0
/-- A world that meets the condition. -/
noncomputable def errWorld (os : Os) : World :=
  let w0 := World.holding Tryz.prog os ⟨#[], #[], []⟩
  { w0 with heap := w0.heap.modify 1 fun
      | .cells _ t frozen => .cells #[.iface 146 (.agg #[.pointer (some ⟨5, 26, none⟩)])] t frozen
      | o => o }
theorem errWorld_met (os : Os) (args : Array Value) : laidMetH Tryz.prog [("errors.errorType", Rows.laid_errors_errorType)] ((errWorld os).forCall (fun _ _ => 0) ⟨#[], args, []⟩).memory :=
  laidMetH_of_parts (laidMet_nil _ _) (by kernel_rfl)
end Go.Proofs.YtmhfbdeeebbloaaGreatDoor
