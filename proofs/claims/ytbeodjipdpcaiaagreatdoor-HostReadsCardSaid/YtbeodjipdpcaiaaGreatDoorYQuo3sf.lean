/- Idl0, Qb0 in one text (a claim holds at most 60 files). -/
import Derived.Test.YtbeodjipdpcaiaaGreatDoorYFold0sf
import Derived.Test.YtbeodjipdpcaiaaGreatDoorYScan4sf
import Derived.Test.YtbeodjipdpcaiaaGreatDoorYErrs1s
import Derived.Test.YtbeodjipdpcaiaaGreatDoorYLib0s
import Derived.BigQuiet
import Derived.Deep.DeepCutAuto
import Derived.Deep.RegionWith
import Derived.Deep.RegionHeld3
import Derived.Lib.Strings
import Derived.Lib.Slices
import Derived.Lib.Walk
import Derived.Lib.Builder
import Derived.Lib.AppendStr
import Derived.Lib.UnsafeStr
import Derived.Lib.MakeNoZero
import Derived.WalkKit
import Derived.Laws.Externs
import Derived.Lib.Bytealg
import Derived.Test.YtbeodjipdpcaiaaGreatDoorProg
import Derived.Deep.WholeRow
set_option maxRecDepth 100000
set_option maxHeartbeats 16000000
namespace Go.Proofs.YtbeodjipdpcaiaaGreatDoor
section
open Go.RowKit
def CsRel (B : ByteArray) (R : Sc (List Nat)) (w : World) (o i : Value) (wr : World) : Prop := ∃ (j : Nat) (acc : List Nat), i = .int .i64 j ∧ j ≤ B.size ∧ acc.length ≤ j ∧ wr.ownsRow w.heap.size 3 1 o acc.length (intsV acc) ∧ Below w.heap.size w wr ∧ charsS B j acc = R
theorem charS_dec {B : ByteArray} {i : Nat} (hi : i < B.size) : charS B i = if decU B i = (65533, 1) then .no 12 i else .ok (decU B i) := by
 unfold charS; rw [if_neg (by omega)]
def CsPost (w : World) (r : Sc (List Nat)) (e : Ending) (w' : World) : Prop := match r with
 | .ok l => ∃ v, e = .returned (.tuple #[v, .nilIface]) ∧ Rd (Fresh w w') w' v (intsD l) ∧ Below w.heap.size w w'
 | .no k i => ∃ u, e = .returned (.tuple #[.slice none 0 0, .iface 119 (.pointer (some u))]) ∧ Failed w k i (.iface 119 (.pointer (some u))) w'
theorem uchars_any (v : Value) (B : ByteArray) (w : World) (h : Rd (Own w) w v (bytesDB B)) (ht : Utf8T w) (hm : B.size ≤ 1000000) :
    Calls Tryz.prog 141 #[v] w (CsPost w (charsS B 0 [])) := by
 obtain ⟨R, hR⟩ : ∃ R, charsS B 0 [] = R := ⟨_, rfl⟩
 rw [hR]
 have HR := hid hR; have H := hid h; have HT := hid ht
 obtain ⟨a, c, rfl, _, _, _⟩ := h.by_inv
 clear h ht hR
 go_enter Tryz.func141, Tryz.ntmps141
 go_wp2_with fail
 go_loopw [4, 5] (CsRel B R w) (fun _ k _ => B.size - (intOf k).toNat)
 case atStart => exact ⟨0, [], rfl, Nat.zero_le _, Nat.zero_le _, World.ownsRow_nil _ _ _ _, Below.refl _ _, HR.out⟩
 case round =>
  obtain ⟨j, acc, rfl, hj, hA, ho, hb, hr⟩ := hrel
  obtain ⟨ao, cap, rfl, _⟩ := aown_form ho
  have HO := hid ho; have HB := hid hb
  by_cases hlt : j < B.size
  · obtain ⟨t1, t1'⟩ := ltT j B.size hlt
    have CN := unext_any _ B j wr (H.out.ext hb) (HT.out.ext hb) hm hlt
    rw [charS_dec hlt] at CN
    rw [charsS_step hlt] at hr
    have hz := decU_size hlt
    by_cases hd : decU B j = (65533, 1)
    · rw [if_pos hd] at hr CN
      have HRR := hid hr.symm
      have HCN := hid CN
      clear ho hb hr CN hd hz
      go_wp2_with fail
      refine HCN.out.mono ?_
      rintro e w1 ⟨u, rfl, hx⟩
      have HX := hid (hx.after HB.out)
      clear hx
      go_wp2
      go_ret2
      rw [HRR.out]
      exact ⟨_, rfl, HX.out⟩
    · rw [if_neg hd] at hr CN
      generalize decU B j = x at *
      obtain ⟨ch, n⟩ := x
      simp only at hr hz
      have HRR := hid hr
      have HCN := hid CN
      have q1 : IntKind.i64.wrap ((j : Int) + (n : Int)) = (j : Int) + (n : Int) := i64n _ (by omega)
      clear ho hb hr CN hd
      go_wp2_with fail
      refine HCN.out.mono ?_
      rintro e w1 ⟨rfl, hb1⟩
      have HO1 := hid (aown_ext HO.out (fun g hg => hb1.block g (HO.out.lt g hg).2) (Nat.le_refl _))
      have HB1 := hid (xT HB.out hb1)
      clear hb1
      go_wp2_with (at_builtin; refine wpList_app1 w1 _ _ rfl _ _ 144 rfl w.heap.size elInt _ _ _ rfl HO1.out rfl rfl ?c1 ?c2 ?c3 ?c4 ?_)
      case c1 => first | rfl | (intro u hu; simp at hu; subst hu; rfl)
      case c2 => simp [maxLen]; omega
      case c3 => omega
      case c4 => exact HB1.out.size
      intro v2 w2 ho2 hg2
      have R' : CsRel B R w v2 (.int .i64 (j + n)) w2 := by
       refine ⟨j + n, acc ++ [ch], by go_num, hz.2, by simp; omega, ?_, ?_, HRR.out⟩
       · simpa [intsV] using ho2
       · exact (ext_alloc HB1.out _).grown hg2 (ext_alloc HB1.out _).size (fun m hm => (HO1.out.lt m hm).1)
      have HRL := hid R'
      clear R' ho2 hg2
      go_wp2
      refine ⟨?_, by simp [intOf] <;> omega⟩
      first | exact HRL.out | ((repeat apply Exists.intro); exact ⟨HRL.out, rfl⟩)
  · obtain ⟨t1, t1'⟩ := ltF j B.size hlt
    rw [charsS_end hlt] at hr
    have HRR := hid hr.symm
    have HRD := hid (rd_owned (S := Fresh w wr) ho (intsV_rds acc) (fun g hg => ho.lt g hg))
    clear ho hb hr hlt
    go_wp2
    go_ret2
    rw [HRR.out]
    exact ⟨_, rfl, HRD.out, HB.out⟩
end
section
open Go.RowKit
end
end Go.Proofs.YtbeodjipdpcaiaaGreatDoor
namespace Go.Proofs.YtbeodjipdpcaiaaGreatDoor
section
open Go.RowKit
theorem bdSize : (Tryz.prog.info? 150).map (·.size) = some 2 := by kernel_rfl
theorem bdLies : liesAt Tryz.prog Tryz.prog.depth 150 (2 / Tryz.prog.cellsOf 150) 0 150 1 = true := by kernel_rfl
theorem bdByte : (Tryz.prog.info? 5).map (fun i => (i.zero, i.size, i.bytes)) = some (some (.int .u8 0), 1, 1) := by kernel_rfl
abbrev BAt (B b : Nat) (p : Value) (l : List UInt8) (w : World) : Prop := Lib.BuilderAt 150 5 B b p (Lib.byteCells l) w
abbrev BIs (B b : Nat) (l : List UInt8) (w : World) : Prop := Lib.IsBuilder 150 5 B b (Lib.byteCells l) w
def Kept (b : Nat) (w w' : World) : Prop := ∀ k, k ≠ b → k < w.heap.size → (∀ cs, w.heap[k]? ≠ some (.cells cs 5 (0, 0))) → w'.heap[k]? = w.heap[k]?
theorem Kept.refl (b : Nat) (w : World) : Kept b w w := fun _ _ _ _ => rfl
theorem Kept.trans {b : Nat} {w w1 w2 : World} (h : Kept b w w1) (hz : w.heap.size ≤ w1.heap.size) (h2 : Kept b w1 w2) : Kept b w w2 := fun k h1 hk hr => by
 have e := h k h1 hk hr
 rw [h2 k h1 (by omega) (fun cs => by rw [e]; exact hr cs), e]
theorem Kept.write {b : Nat} {w w1 wx w2 : World} {B n : Nat} {v v' : Value} {l : List Value} (h : ∀ k, k ≠ b → w1.heap[k]? = w.heap[k]?) (hz : w.heap.size ≤ w1.heap.size) (hx : ∀ k, k < w1.heap.size → wx.heap[k]? = w1.heap[k]?) (hzx : w1.heap.size ≤ wx.heap.size) (hown : w1.ownsRow B 5 1 v n l) (hg : wx.grownBy w2 v.ownBlock) : Kept b w (w2.setCell ⟨b, 1, none⟩ v') := fun k h1 hk hr => by
 rw [Below.heap_setCell _ _ _ _ h1, hg.block k (by omega) (fun e => ?_), hx k (by omega), h k h1]
 rcases hown.2 with ⟨rfl, _⟩ | ⟨g, cap, cur, rfl, _, hgg, _⟩
 · simp [Value.ownBlock] at e
 · simp only [Value.ownBlock, Option.some.injEq] at e
   subst e
   rw [h k h1] at hgg
   exact hr _ hgg
theorem copyCheck_used (b : Nat) (w : World) (h0 : w.cell? ⟨b, 0, none⟩ = some (.pointer (some ⟨b, 0, none⟩))) :
    Calls Tryz.prog 187 #[.pointer (some ⟨b, 0, none⟩)] w fun e w' => e = .returned (.tuple #[]) ∧ w' = w := by
 obtain ⟨j, hj, _⟩ := Option.map_eq_some_iff.1 bdSize
 go_enter Tryz.func187, Tryz.ntmps187
 go_wp2
 rw [Lib.run_neq_ptr_same w _ Tryz.underlying148 hj]
 go_wp2
 go_end0
 exact ⟨rfl, rfl⟩
theorem copyCheck_fresh (b : Nat) (w : World) (h0 : w.cell? ⟨b, 0, none⟩ = some (.pointer none)) (hsh : w.shape? b = some (150, 2)) (hfz : w.frozen? ⟨b, 0, none⟩ = false) :
    Calls Tryz.prog 187 #[.pointer (some ⟨b, 0, none⟩)] w fun e w' => e = .returned (.tuple #[]) ∧ w' = w.setCell ⟨b, 0, none⟩ (.pointer (some ⟨b, 0, none⟩)) := by
 obtain ⟨j, hj, hjs⟩ := Option.map_eq_some_iff.1 bdSize
 go_enter Tryz.func187, Tryz.ntmps187
 go_wp2
 rw [Lib.run_to_unsafe w ⟨b, 0, none⟩ Tryz.underlying148 Tryz.underlying181 hj (by rw [hjs]; decide) hsh (Nat.zero_lt_succ 1)]
 simp only [Result.andThen]
 rw [Oper.upon_value]
 go_wp2
 rw [run_callFunc_extern Tryz.func231 (by kernel_rfl) (by kernel_rfl) (by kernel_rfl) (e := Extern.AbiNoEscape.same) (by kernel_rfl)]
 rw [Lib.run_noEscape]
 simp only [Result.andThen]
 rw [Oper.upon_value]
 go_wp2
 rw [Lib.run_from_unsafe w ⟨b, 0, none⟩ Tryz.underlying181 Tryz.underlying148 hj hsh bdLies]
 simp only [Result.andThen]
 rw [Oper.upon_value]
 go_wp2
 go_end0
 exact ⟨rfl, rfl⟩
theorem copyCheck_any (B b : Nat) (l : List UInt8) (w : World) (h : BIs B b l w) :
    Calls Tryz.prog 187 #[.pointer (some ⟨b, 0, none⟩)] w fun e w' => e = .returned (.tuple #[]) ∧ (BAt B b (.pointer (some ⟨b, 0, none⟩)) l w' ∧ Below B w w' ∧ w.heap.size ≤ w'.heap.size ∧ ∀ k, k ≠ b → w'.heap[k]? = w.heap[k]?) := by
 rcases h with h | h
 · refine (copyCheck_fresh b w h.cell0 h.shape h.frozen0).mono ?_
   rintro e w' ⟨rfl, rfl⟩
   exact ⟨rfl, h.used _, (Below.refl B w).setCell (p := ⟨b, 0, none⟩) h.1 _, by simp, fun k hk => Below.heap_setCell _ _ _ _ hk⟩
 · refine (copyCheck_used b w h.cell0).mono ?_
   rintro e w' ⟨rfl, rfl⟩
   exact ⟨rfl, h, Below.refl B _, Nat.le_refl _, fun _ _ => rfl⟩
theorem writeByte_any (B b : Nat) (l : List UInt8) (c : UInt8) (w : World) (h : BIs B b l w) (hlen : l.length ≤ 1000000) (hBw : B ≤ w.heap.size) :
    Calls Tryz.prog 204 #[.pointer (some ⟨b, 0, none⟩), .int .u8 c.toNat] w fun e w' => e = .returned .nilIface ∧ (BIs B b (l ++ [c]) w' ∧ Below B w w' ∧ Kept b w w') := by
 obtain ⟨i0, hi, hz0, hz1, hz2⟩ := info_parts bdByte
 have HC := hid (copyCheck_any B b l w h)
 clear h
 have hlb : (Lib.byteCells l).length = l.length := Lib.byteCells_length l
 go_enter Tryz.func204, Tryz.ntmps204
 go_wp2_with fail
 refine HC.out.mono ?_
 rintro e w1 ⟨rfl, h1, hb1, hz1, hk1⟩
 obtain ⟨hB, v, hbk, hown, hne⟩ := h1
 rw [hlb] at hown
 have HK := hid hk1
 have HZ1 := hid hz1
 clear hk1 hz1
 have c0 : w1.cell? ⟨b, 0, none⟩ = some (.pointer (some ⟨b, 0, none⟩)) := by rw [Lib.cell_of_heap hbk]; rfl
 have c1 : w1.cell? ⟨b, 1, none⟩ = some v := by rw [Lib.cell_of_heap hbk]; rfl
 go_wp2_with (at_builtin; refine wpList_append_own _ rfl _ _ 29 rfl B 5 i0 (.int .u8 0) 1 1 Tryz.underlying29 hi hz0 hz1 hz2 rfl (by decide) _ _ _ rfl (hown.alloc _) ⟨w1.heap.size, 0, none⟩ 1 1 [.int .u8 c.toNat] rfl rfl ?c1 ?c2 ?c3 ?c4 ?c5 ?_)
 case c1 =>
  intro j u hj
  match j, hj with
  | 0, hj => simp at hj; subst hj; simp [Addr.add]
 case c2 => intro u hu; simp at hu; subst hu; rfl
 case c3 => unfold maxLen; omega
 case c4 => omega
 case c5 => have := hb1.size; simp; omega
 intro v' w2 hown' hgrow _
 have hlt : b < w1.heap.size := by
  rcases Nat.lt_or_ge b w1.heap.size with h' | h'
  · exact h'
  · simp [Array.getElem?_eq_none h'] at hbk
 have hb2 : w2.heap[b]? = some (.cells #[.pointer (some ⟨b, 0, none⟩), v] 150 (0, 0)) := by
  rw [hgrow.block b (by simp; omega) (fun e => hne e.symm), Lib.alloc_old w1 _ b hlt]
  exact hbk
 have d0 : w2.cell? ⟨b, 0, none⟩ = some (.pointer (some ⟨b, 0, none⟩)) := by rw [Lib.cell_of_heap hb2]; rfl
 have d1 : w2.cell? ⟨b, 1, none⟩ = some v := by rw [Lib.cell_of_heap hb2]; rfl
 have f1 : w2.frozen? ⟨b, 1, none⟩ = false := Lib.frozen_of_heap hb2 1
 obtain ⟨g, cap, rfl⟩ : ∃ g cap, v' = .slice (some ⟨g, 0, none⟩) (l.length + 1) cap := by
  rcases hown'.2 with ⟨_, h0⟩ | ⟨g, cap, cur, hv, _⟩
  · omega
  · exact ⟨g, cap, hv⟩
 have hbs : Lib.byteCells (l ++ [c]) = Lib.byteCells l ++ [.int .u8 c.toNat] := by simp [Lib.byteCells]
 have hls : (Lib.byteCells (l ++ [c])).length = l.length + 1 := by rw [Lib.byteCells_length]; simp
 go_wp2
 go_ret
 refine ⟨rfl, .inr ?_, ?_, ?_⟩
 · exact Lib.BuilderAt.put hB hb2 (bs' := Lib.byteCells (l ++ [c])) (by rw [hls, hbs]; exact hown') (by decide)
 · exact ((hb1.alloc (by have := hb1.size; omega) _).grown hgrow (by have := hb1.size; simp; omega) (fun k hk => (hown.lt k hk).1)).setCell (p := ⟨b, 1, none⟩) hB _
 · exact Kept.write HK.out HZ1.out (fun k hk => Below.heap_alloc w1 _ k hk) (by simp) hown hgrow
end
section
open Go.RowKit
theorem bis_keep {B b : Nat} {l : List UInt8} {w w' : World} (h : BIs B b l w) (hk : ∀ k, k < w.heap.size → w'.heap[k]? = w.heap[k]?) : BIs B b l w' := by
 have one : ∀ p, BAt B b p l w → BAt B b p l w' := fun p h => by
  have hlt := Lib.BuilderAt.lt h
  obtain ⟨hB, v, hb, hown, hne⟩ := h
  exact ⟨hB, v, by rw [hk b hlt]; exact hb, aown_ext hown (fun g hg => hk g (hown.lt g hg).2) (Nat.le_refl _), hne⟩
 exact h.imp (one _) (one _)
end
end Go.Proofs.YtbeodjipdpcaiaaGreatDoor
namespace Go.Proofs.YtbeodjipdpcaiaaGreatDoor
section
end
section
open Go.RowKit
def BW (B : Nat) (W : World) : Type := {w' : World // Below B W w'}
instance (B : Nat) (W : World) : Nonempty (BW B W) := ⟨⟨W, Below.refl B W⟩⟩
def BW.w {B : Nat} {W : World} (n : BW B W) : World := n.1
theorem BW.below {B : Nat} {W : World} (n : BW B W) : Below B W n.w := n.2
theorem wp_region_quietB {P : Program} {id : Nat} {Q : Exit → Act → World → Prop} {a : Act} {w : World} {l : List Oper} (B : Nat) (hm : P.follows .mixedOrders = true) (hB : Region.lexB .any l.toArray = true)
    (h : wpQuiet P l.toArray (fun w' => ∃ n : BW B w, w' = n.w) (fun a' => ∀ w', (∃ n : BW B w, w' = n.w) → Q .normal a' w') l a) : (Code.region id l.toArray true).wp P Q a w :=
 wp_region_quiet (C := fun w' => ∃ n : BW B w, w' = n.w) hm hB ⟨⟨w.drew, (Below.refl B w).drew⟩, rfl⟩ (by simpa using h)
theorem quiet_callB {P : Program} {f : FuncId} {args : Array Value} {B : Nat} {W : World} {n : BW B W} {v : Value} (h : Calls P f args n.w fun e w' => e = .returned v ∧ Below n.w.heap.size n.w w') (hs : B ≤ W.heap.size) : Calls P f args n.w fun e w' => e = .returned v ∧ ∃ m : BW B W, w' = m.w :=
 h.mono fun _e w' ⟨h1, h2⟩ => ⟨h1, ⟨w', n.below.trans (h2.mono (Nat.le_trans hs n.below.size))⟩, rfl⟩
end
end Go.Proofs.YtbeodjipdpcaiaaGreatDoor
namespace Go.Proofs.YtbeodjipdpcaiaaGreatDoor
open Go.RowKit
theorem heap_lt {w : World} {b : Nat} {o : Obj} (h : w.heap[b]? = some o) : b < w.heap.size := (Array.getElem?_eq_some_iff.1 h).1
theorem ld_arr {P : Program} {w : World} {ops : Array Oper} {rest : List Oper} {o : Oper} {a : Act} {Q : Exit → Act → World → Prop} (t : TypeId) (b : Nat) (v : Value) (hl : (loadVar t ⟨b, 0, none⟩).run P w = .ok v w)
    (x : Operand) (hgd : o.guard = none) (ho : o.op = .load t x) (hx : a.eval x = .pointer (some ⟨b, 0, none⟩)) (hK : wpList P ops Q rest (a.put o.dst v) w) : wpList P ops Q (o :: rest) a w := by
 refine wpList_plain hgd fun K hK' => ?_
 unfold Oper.wp
 simp [execOp, ho, hx, Instr.loadAt, Instr.sureAddr, hl, Result.andThen]
 exact hK' _ _ hK
theorem ld_arrG {P : Program} {w : World} {ops : Array Oper} {rest : List Oper} {o : Oper} {a : Act} {Q : Exit → Act → World → Prop} (t : TypeId) (b : Nat) (v : Value) (hl : (loadVar t ⟨b, 0, none⟩).run P w = .ok v w)
    (x : Operand) (hgd : Region.wanted o (yielded ops a.tmps) = true) (ho : o.op = .load t x) (hx : a.eval x = .pointer (some ⟨b, 0, none⟩)) (hK : wpList P ops Q rest (a.put o.dst v) w) : wpList P ops Q (o :: rest) a w := by
 refine wpList_step fun K hK' => ?_
 rw [if_pos hgd]
 unfold Oper.wp
 simp [execOp, ho, hx, Instr.loadAt, Instr.sureAddr, hl, Result.andThen]
 exact hK' _ _ hK
theorem st_arr {P : Program} {w w' : World} {ops : Array Oper} {rest : List Oper} {o : Oper} {a : Act} {Q : Exit → Act → World → Prop} (t : TypeId) (b : Nat) (v : Value) (hl : (storeVar t ⟨b, 0, none⟩ v).run P w = .ok () w')
    (x y : Operand) (hgd : o.guard = none) (ho : o.op = .store t x y) (hx : a.eval x = .pointer (some ⟨b, 0, none⟩)) (hy : a.eval y = v) (hK : wpList P ops Q rest (a.put o.dst undef) w') : wpList P ops Q (o :: rest) a w := by
 refine wpList_plain hgd fun K hK' => ?_
 unfold Oper.wp
 simp [execOp, ho, hx, hy, Instr.storeAt, Instr.sureAddr, hl, Result.andThen]
 exact hK' _ _ hK
theorem setRow_heap {w : World} {b : Nat} {c d : Array Value} {t : TypeId} {fr : Nat × Nat} (h : w.heap[b]? = some (.cells d t fr)) : (w.setRow b c).heap[b]? = some (.cells c t fr) := by
 simp only [World.setRow]
 rw [Array.getElem?_modify, if_pos rfl, h]; rfl
theorem setRow_below {w0 w : World} {B b : Nat} {c : Array Value} (h : Below B w0 w) (hb : B ≤ b) : Below B w0 (w.setRow b c) := by
 refine ⟨h.os, h.tape, h.output, by simp only [World.setRow, Array.size_modify]; exact h.size, fun k hk => ?_⟩
 simp only [World.setRow]
 rw [Array.getElem?_modify, if_neg (by omega)]
 exact h.block k hk
theorem row_same {w : World} {b : Nat} {c : Array Value} {t : TypeId} {fr : Nat × Nat} (h : w.heap[b]? = some (.cells c t fr)) : w.setRow b c = w := by
 simp only [World.setRow]
 have : w.heap.modify b (fun o => match o with | .cells _ t f => .cells c t f | o => o) = w.heap := by
  apply Array.ext_getElem?
  intro i
  rw [Array.getElem?_modify]
  by_cases e : b = i
  · subst e; rw [if_pos rfl, h]; rfl
  · rw [if_neg e]
 exact congrArg (fun h => { w with heap := h }) this
end Go.Proofs.YtbeodjipdpcaiaaGreatDoor
