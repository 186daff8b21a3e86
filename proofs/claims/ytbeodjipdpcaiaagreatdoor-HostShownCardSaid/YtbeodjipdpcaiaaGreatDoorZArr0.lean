/- Whole arrays loaded and stored as one step. Nothing of one function. -/
import Derived.Test.YtbeodjipdpcaiaaGreatDoorZOwn0s
import Derived.Test.YtbeodjipdpcaiaaGreatDoorProg
import Derived.WalkKit
import Derived.Deep.WholeRow
namespace Go.Proofs.YtbeodjipdpcaiaaGreatDoor
open Go.RowKit
theorem heap_lt {w : World} {b : Nat} {o : Obj} (h : w.heap[b]? = some o) : b < w.heap.size := (Array.getElem?_eq_some_iff.1 h).1
theorem ld_arr {P : Program} {w : World} {ops : Array Oper} {rest : List Oper} {o : Oper} {a : Act} {Q : Exit → Act → World → Prop} (t : TypeId) (b : Nat) (v : Value) (hl : (loadVar t ⟨b, 0, none⟩).run P w = .ok v w)
    (x : Operand) (hgd : o.guard = none) (ho : o.op = .load t x) (hx : a.eval x = .pointer (some ⟨b, 0, none⟩)) (hK : wpList P ops Q rest (a.put o.dst v) w) : wpList P ops Q (o :: rest) a w := by
  refine wpList_plain hgd fun K hK' => ?_
  unfold Oper.wp
  simp [execOp, ho, hx, Instr.loadAt, Instr.sureAddr, hl, Result.andThen]
  exact hK' _ _ hK
theorem ld_arrG {P : Program} {w : World} {ops : Array Oper} {rest : List Oper} {o : Oper} {a : Act} {Q : Exit → Act → World → Prop} (t : TypeId) (b : Nat) (v : Value) (hl : (loadVar t ⟨b, 0, none⟩).run P w = .ok v w)
    (x : Operand) (hgd : Region.wanted o (yielded ops a.tmps) = true) (ho : o.op = .load t x) (hx : a.eval x = .pointer (some ⟨b, 0, none⟩)) (hK : wpList P ops Q rest (a.put o.dst v) w) : wpList P ops Q (o :: rest) a w := by
  refine wpList_step fun K hK' => ?_
  rw [if_pos hgd]
  unfold Oper.wp
  simp [execOp, ho, hx, Instr.loadAt, Instr.sureAddr, hl, Result.andThen]
  exact hK' _ _ hK
theorem st_arr {P : Program} {w w' : World} {ops : Array Oper} {rest : List Oper} {o : Oper} {a : Act} {Q : Exit → Act → World → Prop} (t : TypeId) (b : Nat) (v : Value) (hl : (storeVar t ⟨b, 0, none⟩ v).run P w = .ok () w')
    (x y : Operand) (hgd : o.guard = none) (ho : o.op = .store t x y) (hx : a.eval x = .pointer (some ⟨b, 0, none⟩)) (hy : a.eval y = v) (hK : wpList P ops Q rest (a.put o.dst undef) w') : wpList P ops Q (o :: rest) a w := by
  refine wpList_plain hgd fun K hK' => ?_
  unfold Oper.wp
  simp [execOp, ho, hx, hy, Instr.storeAt, Instr.sureAddr, hl, Result.andThen]
  exact hK' _ _ hK
theorem setRow_heap {w : World} {b : Nat} {c d : Array Value} {t : TypeId} {fr : Nat × Nat} (h : w.heap[b]? = some (.cells d t fr)) : (w.setRow b c).heap[b]? = some (.cells c t fr) := by
  simp only [World.setRow]
  rw [Array.getElem?_modify, if_pos rfl, h]; rfl
theorem setRow_below {w0 w : World} {B b : Nat} {c : Array Value} (h : Below B w0 w) (hb : B ≤ b) : Below B w0 (w.setRow b c) := by
  refine ⟨h.os, h.tape, h.output, by simp only [World.setRow, Array.size_modify]; exact h.size, fun k hk => ?_⟩
  simp only [World.setRow]
  rw [Array.getElem?_modify, if_neg (by omega)]
  exact h.block k hk
theorem row_same {w : World} {b : Nat} {c : Array Value} {t : TypeId} {fr : Nat × Nat} (h : w.heap[b]? = some (.cells c t fr)) : w.setRow b c = w := by
  simp only [World.setRow]
  have : w.heap.modify b (fun o => match o with | .cells _ t f => .cells c t f | o => o) = w.heap := by
    apply Array.ext_getElem?
    intro i
    rw [Array.getElem?_modify]
    by_cases e : b = i
    · subst e; rw [if_pos rfl, h]; rfl
    · rw [if_neg e]
  exact congrArg (fun h => { w with heap := h }) this
end Go.Proofs.YtbeodjipdpcaiaaGreatDoor
