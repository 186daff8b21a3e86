/- ident.Print at a text that tells a fingerprint. -/
import Derived.Test.YtmhfbdeeebbloaaDoorIdp1
import Derived.Deep.WholeRow
namespace Go.Proofs.YtmhfbdeeebbloaaDoor
open Go.RowKit
/-- A fingerprint's cells, the first so many of them written. -/
def prC (f : Nat → Nat) (j : Nat) : Array Value := ((List.range 32).map fun i => Value.int .u8 ((if i < j then f i else 0 : Nat) : Int)).toArray
theorem prC_size (f : Nat → Nat) (j : Nat) : (prC f j).size = 32 := by simp [prC]
theorem prC_get (f : Nat → Nat) (j i : Nat) (hi : i < 32) : (prC f j)[i]? = some (.int .u8 ((if i < j then f i else 0 : Nat) : Int)) := by
  simp [prC, hi]
theorem prC_set (f : Nat → Nat) (j : Nat) (hj : j < 32) : (prC f j).setIfInBounds j (.int .u8 (f j)) = prC f (j + 1) := by
  apply Array.ext_getElem?
  intro i
  by_cases hi : i < 32
  · rw [Array.getElem?_setIfInBounds, prC_get f (j + 1) i hi, prC_get f j i hi, prC_size]
    by_cases e : j = i
    · subst e
      rw [if_pos rfl, if_pos hj, if_pos (by omega)]
    · rw [if_neg e]
      by_cases h : i < j
      · rw [if_pos h, if_pos (by omega)]
      · rw [if_neg h, if_neg (by omega)]
  · rw [Array.getElem?_eq_none (by rw [Array.size_setIfInBounds, prC_size]; omega), Array.getElem?_eq_none (by rw [prC_size]; omega)]
theorem prC_zero (f : Nat → Nat) : prC f 0 = #[.int .u8 0, .int .u8 0, .int .u8 0, .int .u8 0, .int .u8 0, .int .u8 0, .int .u8 0, .int .u8 0, .int .u8 0, .int .u8 0, .int .u8 0, .int .u8 0, .int .u8 0, .int .u8 0, .int .u8 0, .int .u8 0, .int .u8 0, .int .u8 0, .int .u8 0, .int .u8 0, .int .u8 0, .int .u8 0, .int .u8 0, .int .u8 0, .int .u8 0, .int .u8 0, .int .u8 0, .int .u8 0, .int .u8 0, .int .u8 0, .int .u8 0, .int .u8 0] := by rfl
theorem lt_heap {w : World} {b : Nat} {o : Obj} (h : w.heap[b]? = some o) : b < w.heap.size := (Array.getElem?_eq_some_iff.1 h).1
/-- A whole array loaded, as one step. -/
theorem wpList_loadRow {P : Program} {w : World} {ops : Array Oper} {rest : List Oper} {o : Oper} {a : Act} {Q : Exit → Act → World → Prop} (t : TypeId) (b : Nat) (v : Value) (hl : (loadVar t ⟨b, 0, none⟩).run P w = .ok v w)
    (x : Operand) (hgd : o.guard = none) (ho : o.op = .load t x) (hx : a.eval x = .pointer (some ⟨b, 0, none⟩)) (hK : wpList P ops Q rest (a.put o.dst v) w) : wpList P ops Q (o :: rest) a w := by
  refine wpList_plain hgd fun K hK' => ?_
  unfold Oper.wp
  simp [execOp, ho, resolve, hx, Instr.loadAt, Instr.sureAddr, hl, Result.andThen]
  exact hK' _ _ hK
/-- A whole array stored over one that is the same, as one step. -/
theorem wpList_storeRow {P : Program} {w w' : World} {ops : Array Oper} {rest : List Oper} {o : Oper} {a : Act} {Q : Exit → Act → World → Prop} (t : TypeId) (b : Nat) (v : Value) (hl : (storeVar t ⟨b, 0, none⟩ v).run P w = .ok () w')
    (x y : Operand) (hgd : o.guard = none) (ho : o.op = .store t x y) (hx : a.eval x = .pointer (some ⟨b, 0, none⟩)) (hy : a.eval y = v) (hK : wpList P ops Q rest (a.put o.dst undef) w') : wpList P ops Q (o :: rest) a w := by
  refine wpList_plain hgd fun K hK' => ?_
  unfold Oper.wp
  simp [execOp, ho, resolve, hx, hy, Instr.storeAt, Instr.sureAddr, hl, Result.andThen]
  exact hK' _ _ hK
theorem prC_one (f : Nat → Nat) (j : Nat) : (prC f j).all (·.oneCell') = true := by
  rw [Array.all_eq_true_iff_forall_mem]
  intro v hv
  simp only [prC, List.mem_toArray, List.mem_map] at hv
  obtain ⟨i, _, rfl⟩ := hv
  rfl
theorem prInfo : (Tryd.prog.info? 23).map (·.size) = some 32 := by kernel_rfl
theorem pr_load (f : Nat → Nat) (j b : Nat) (w : World) (h : w.heap[b]? = some (.cells (prC f j) 23 (0, 0))) : (loadVar 23 ⟨b, 0, none⟩).run Tryd.prog w = .ok (.agg (prC f j)) w :=
  run_loadVar_row _ _ 23 23 _ (0, 0) _ h Tryd.underlying23 rfl (by rw [prC_size]; exact prInfo)
theorem setRow_same {w : World} {b : Nat} {c : Array Value} {t : TypeId} {fr : Nat × Nat} (h : w.heap[b]? = some (.cells c t fr)) : w.setRow b c = w := by
  simp only [World.setRow]
  have : w.heap.modify b (fun o => match o with | .cells _ t f => .cells c t f | o => o) = w.heap := by
    apply Array.ext_getElem?
    intro i
    rw [Array.getElem?_modify]
    by_cases e : b = i
    · subst e; rw [if_pos rfl, h]; rfl
    · rw [if_neg e]
  exact congrArg (fun h => { w with heap := h }) this
theorem pr_store (f : Nat → Nat) (j b : Nat) (w : World) (h : w.heap[b]? = some (.cells (prC f j) 23 (0, 0))) : (storeVar 23 ⟨b, 0, none⟩ (.agg (prC f j))).run Tryd.prog w = .ok () w := by
  have := run_storeVar_row (P := Tryd.prog) w b 23 23 _ (prC f j) h (by rw [prC_size]; exact prInfo) rfl (prC_one f j)
  rw [setRow_same h] at this
  exact this
def PrRel7 (f : Nat → Nat) (W : World) (b : Nat) (i : Value) (wr : World) : Prop := ∃ j : Nat, i = .int .i64 j ∧ j ≤ 32 ∧ Below W.heap.size W wr ∧ wr.heap[b]? = some (.cells (prC f j) 23 (0, 0))
theorem print1En : ∀ args w, (callFunc 36 args).run Tryd.prog w = .ok (.enter 36 args) w := enters_id Tryd.func36 (by kernel_rfl) rfl
set_option maxRecDepth 100000 in
set_option maxHeartbeats 8000000 in
theorem iprint_any (s : ByteArray) (f : Nat → Nat) (w : World) (h : PrOk s f) :
    Calls Tryd.prog 10 #[.string s] w fun e w' => e = .returned (.tuple #[.agg (prC f 32), .nilIface]) ∧ Below w.heap.size w w' := by
  have hz := h.size
  have RD := Lib.hid (fun W => readOk_any 36 print1En s 95 W (fun i W hi => by
    have := print1_any i (byteAt s i) (by omega) (byteAt_lt s i) W
    rw [h.fits hi] at this
    exact this) (by omega) (by decide))
  have HX := Lib.hid (fun (j : Nat) (hj : j < 32) W => by
    have := hex_any (s.extract (3 * j) (3 * j + 2)) 255 W (by rw [ByteArray.size_extract]; omega) (by decide)
    rw [h.pair hj] at this
    exact this)
  have HLT := Lib.hid h.lt
  have hl : decide ((95 : Int) ≤ (s.size : Int)) = true := decide_eq_true (by omega)
  have HZ := Lib.hid hz
  obtain ⟨W1, hW1⟩ : ∃ W, w.alloc (.cells (prC f 0) 23) = W := ⟨_, rfl⟩
  have hb1 : Below w.heap.size w W1 := by rw [← hW1]; exact ext_alloc (Below.refl _ _) _
  have hx1 : W1.heap[w.heap.size]? = some (.cells (prC f 0) 23 (0, 0)) := by rw [← hW1]; exact heap_alloc_new w _
  rw [prC_zero] at hW1
  have HB1 := Lib.hid hb1; have HX1 := Lib.hid hx1
  clear h hz hb1 hx1
  go_enter Tryd.func10, Tryd.ntmps10
  go_wp2_with fail
  clear hW1
  refine (RD.out _).mono ?_
  rintro e w2 ⟨rfl, hb2⟩
  have R0 : PrRel7 f w w.heap.size (.int .i64 0) w2 := ⟨0, rfl, by decide, ext_trans HB1.out hb2, (hb2.block _ (lt_heap HX1.out)).trans HX1.out⟩
  have HR0 := Lib.hid R0
  clear R0 hb2 hl
  go_wp2_with fail
  go_loopw [16] (PrRel7 f w w.heap.size) (fun i _ => 32 - (intOf i).toNat)
  case atStart => exact HR0.out
  case round =>
    obtain ⟨j, rfl, hj, hbw, hblk⟩ := hrel
    by_cases hlt : j < 32
    · have t1 : decide ((j : Int) < 32) = true := decide_eq_true (by omega)
      have t1' : decide (j < 32) = true := decide_eq_true hlt
      have hz := HZ.out
      have q1 : IntKind.i64.wrap ((j : Int) + 1) = (j : Int) + 1 := IntWalk.i64_in _ (by omega)
      have q2 : IntKind.i64.wrap (3 * (j : Int)) = 3 * (j : Int) := IntWalk.i64_in _ (by omega)
      have q3 : IntKind.i64.wrap (3 * (j : Int) + 2) = 3 * (j : Int) + 2 := IntWalk.i64_in _ (by omega)
      have sl : ∀ W : World, (Instr.slice 9 (.string s) (some (.int .i64 (3 * (j : Int)))) (some (.int .i64 (3 * (j : Int) + 2))) none).run Tryd.prog W = .ok (.string (s.extract (3 * j) (3 * j + 2))) W := fun W => by
        have e1 : (3 * (j : Int) + 2).toNat = 3 * j + 2 := by omega
        have e0 : (3 * (j : Int)).toNat = 3 * j := by omega
        have e2 : (0 : Int) ≤ 3 * (j : Int) + 2 := by omega
        have e3 : 3 * (j : Int) + 2 ≤ (s.size : Int) := by omega
        have e4 : 3 * (j : Int) ≤ 3 * (j : Int) + 2 := by omega
        have e5 : (0 : Int) ≤ 3 * (j : Int) := by omega
        simp [Instr.slice, run_underlying Tryd.underlying9, Instr.sliceBounds, run_sliceBound, e0, e1, e2, e3, e4, e5]
      have HXJ := Lib.hid (HX.out j hlt)
      have hfl := HLT.out j
      have q4 : IntKind.u8.wrap (f j : Int) = (f j : Int) := IntWalk.u8_in _ (by omega)
      have HBW := Lib.hid hbw; have HBLK := Lib.hid hblk
      generalize s.extract (3 * j) (3 * j + 2) = sx at *
      clear hbw hblk hz
      go_wp2_with fail
      refine (HXJ.out wr).mono ?_
      rintro e w4 ⟨rfl, hb4⟩
      have hblk4 := (hb4.block _ (lt_heap HBLK.out)).trans HBLK.out
      have cj : w4.cell? ⟨w.heap.size, j, none⟩ = some (.int .u8 0) := by
        have := prC_get f j j hlt
        rw [if_neg (Nat.lt_irrefl j)] at this
        simp [World.cell?, hblk4, this]
      have fj : w4.frozen? ⟨w.heap.size, j, none⟩ = false := Go.Joins.unfrozen_of_block hblk4 j
      have R : PrRel7 f w w.heap.size (.int .i64 ((j : Int) + 1)) (w4.setCell ⟨w.heap.size, j, none⟩ (.int .u8 (f j))) := ⟨j + 1, by go_num, hlt, (ext_trans HBW.out hb4).setCell (p := ⟨w.heap.size, j, none⟩) (Nat.le_refl _) _, by
        have := Go.Joins.block_setCell hblk4 (i := j) (.int .u8 (f j))
        rw [prC_set f j hlt] at this
        simpa using this⟩
      have HRR := Lib.hid R
      clear R hblk4 hb4
      go_wp2
      refine ⟨?_, by simp [intOf]; omega⟩
      have R := HRR.out
      first | exact R | ((repeat apply Exists.intro); exact ⟨R, rfl⟩)
    · have t1 : decide ((j : Int) < 32) = false := decide_eq_false (by omega)
      have t1' : decide (j < 32) = false := decide_eq_false hlt
      obtain rfl : j = 32 := by omega
      have hld := pr_load f 32 _ wr hblk
      have hst := pr_store f 32 _ wr hblk
      have HF := Lib.hid hbw
      generalize hcs : prC f 32 = cs at *
      have HCS := Lib.hid hcs
      clear hbw hblk hcs
      go_wp2_with ((with_reducible show wpList _ _ _ (_ :: _) _ _); first | (refine wpList_loadRow 23 w.heap.size (.agg cs) hld _ rfl rfl rfl ?_) | (refine wpList_storeRow 23 w.heap.size (.agg cs) hst _ _ rfl rfl rfl rfl ?_))
      (try simp only [Exit.inBlock, Exit.then])
      refine bodyPost_ret (v := .tuple #[.agg cs, .nilIface]) (by simp [results, Tryd.results10, asAddr, Result.andThen, hld]) rfl ⟨by rw [HCS.out], HF.out⟩
end Go.Proofs.YtmhfbdeeebbloaaDoor
