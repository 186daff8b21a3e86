/- Texts put together. -/
import Derived.Test.YtbeodjipdpcaiaaGreatDoorYDec4f
import Derived.Test.YtbeodjipdpcaiaaGreatDoorYUrw6
import Derived.ChangeKeysEq
namespace Go.Proofs.YtbeodjipdpcaiaaGreatDoor
section
open Go.RowKit
end
section
open Go.RowKit
theorem tl_iff (a b : ByteArray) : (a.toList == b.toList) = decide (a = b) := by
 by_cases h : a = b
 · rw [decide_eq_true h, beqS_t h]
 · rw [decide_eq_false h, beqS_f h]
theorem eqStr (d : Nat) (a b : ByteArray) (W : World) : (Op.equalIn (d + 1) 9 (.string a) (.string b)).run Tryz.prog W = .ok (decide (a = b)) W := by
 rw [← tl_iff]; exact run_equalIn_string W d _ a b Tryz.underlying9
theorem eqInt (d : Nat) (a b : Int) (W : World) : (Op.equalIn (d + 1) 3 (.int .i64 a) (.int .i64 b)).run Tryz.prog W = .ok (decide (a = b)) W := by
 have := run_equalIn_int W d _ .i64 .i64 a b Tryz.underlying3
 rw [this]; congr 1
theorem eqBool (d : Nat) (a b : Bool) (W : World) : (Op.equalIn (d + 1) 4 (.bool a) (.bool b)).run Tryz.prog W = .ok (decide (a = b)) W := by
 have := run_equalIn_bool W d _ a b Tryz.underlying4
 rw [this]; cases a <;> cases b <;> rfl
theorem eqHost (d : Nat) (k : Int) (t : ByteArray) (k2 : Int) (t2 : ByteArray) (W : World) : (Op.equalIn (d + 2) 24 (.agg #[.int .i64 k, .string t]) (.agg #[.int .i64 k2, .string t2])).run Tryz.prog W = .ok (decide (k = k2 ∧ t = t2)) W := by
 have hu := run_underlying (P := Tryz.prog) Tryz.underlying24
 have e1 := eqInt d k k2 W
 have e2 := eqStr d t t2 W
 rw [Op.equalIn]
 simp only [Bool.decide_and]
 generalize decide (k = k2) = b1 at *
 generalize decide (t = t2) = b2 at *
 simp [hu, part, isAgg, run_underlying Tryz.underlying3, run_underlying Tryz.underlying9, e1, e2]
 try (cases b1 <;> cases b2 <;> simp)
theorem hostInfo : ∃ i, Tryz.prog.info? 24 = some i ∧ i.size = 2 := by
 cases h : Tryz.prog.info? 24 with
 | none => have := ho_info; rw [h] at this; cases this
 | some i => exact ⟨i, rfl, by have := ho_info; rw [h] at this; simpa using this⟩
set_option maxRecDepth 100000 in
set_option maxHeartbeats 4000000 in
theorem run_urlEq (s : ByteArray) (k : Int) (t : ByteArray) (p : Int) (pa q f : ByteArray) (hq hf : Bool) (s2 : ByteArray) (k2 : Int) (t2 : ByteArray) (p2 : Int) (pa2 q2 f2 : ByteArray) (hq2 hf2 : Bool) (W : World) :
    (Op.equalIn 10000 50 (.agg (urlA s k t p pa q f hq hf)) (.agg (urlA s2 k2 t2 p2 pa2 q2 f2 hq2 hf2))).run Tryz.prog W = .ok (decide (s = s2 ∧ (k = k2 ∧ t = t2) ∧ p = p2 ∧ pa = pa2 ∧ q = q2 ∧ f = f2 ∧ hq = hq2 ∧ hf = hf2)) W := by
 have hu := run_underlying (P := Tryz.prog) Tryz.underlying50
 obtain ⟨i, hi, hz⟩ := hostInfo
 have e1 := eqStr 9998 s s2 W
 have e2 := eqHost 9997 k t k2 t2 W
 have e3 := eqInt 9998 p p2 W
 have e4 := eqStr 9998 pa pa2 W
 have e5 := eqStr 9998 q q2 W
 have e6 := eqStr 9998 f f2 W
 have e7 := eqBool 9998 hq hq2 W
 have e8 := eqBool 9998 hf hf2 W
 rw [show (10000 : Nat) = 9999 + 1 from rfl, Op.equalIn]
 rw [Bool.decide_and, Bool.decide_and (k = k2 ∧ t = t2), Bool.decide_and (p = p2), Bool.decide_and (pa = pa2), Bool.decide_and (q = q2), Bool.decide_and (f = f2), Bool.decide_and (hq = hq2)]
 generalize decide (s = s2) = b1 at *
 generalize decide (k = k2 ∧ t = t2) = b2 at *
 generalize decide (p = p2) = b3 at *
 generalize decide (pa = pa2) = b4 at *
 generalize decide (q = q2) = b5 at *
 generalize decide (f = f2) = b6 at *
 generalize decide (hq = hq2) = b7 at *
 generalize decide (hf = hf2) = b8 at *
 have x2 : ∀ (a : ByteArray) (x : Int) (b : ByteArray) (y : Int) (c d e : ByteArray) (u v : Bool), (part 24 (urlA a x b y c d e u v) 1).run Tryz.prog W = .ok (.agg #[.int .i64 x, .string b]) W := fun a x b y c d e u v => by
  simp [part, isAgg, run_underlying Tryz.underlying24, sizeOf, typeInfo, hi, hz, urlA]
 simp only [hu, Sem.run_bind, Result.andThen_ok]
 simp [part, isAgg, run_underlying Tryz.underlying3, run_underlying Tryz.underlying9, run_underlying Tryz.underlying4, urlA, e1, e3, e4, e5, e6, e7, e8, e2]
 cases b1 <;> cases b2 <;> cases b3 <;> cases b4 <;> cases b5 <;> cases b6 <;> cases b7 <;> cases b8 <;> simp
/-- Two structs held against one another as one step. -/
theorem eq_arrG {P : Program} {w : World} {ops : Array Oper} {rest : List Oper} {o : Oper} {a : Act} {Q : Exit → Act → World → Prop} (t yt : TypeId) (ca cb : Array Value) (r : Bool) (hg : P.eqGuardType P.depth t = false) (hq : (Op.equalIn 10000 t (.agg ca) (.agg cb)).run P w = .ok r w)
    (x y : Operand) (hgd : Region.wanted o (yielded ops a.tmps) = true) (ho : o.op = .binOp .eql t x y yt) (hx : a.eval x = .agg ca) (hy : a.eval y = .agg cb) (hK : wpList P ops Q rest (a.put o.dst (.bool r)) w) : wpList P ops Q (o :: rest) a w := by
 refine wpList_step fun K hK' => ?_
 rw [if_pos hgd]
 have hq' : (Op.equal t (.agg ca) (.agg cb)).run P w = .ok r w := hq
 unfold Oper.wp
 simp [execOp, ho, hx, hy, eqGuard, binOp, hg, Sem.run_bind, hq', Result.andThen]
 exact hK' _ _ hK
theorem url_noGuard : Tryz.prog.eqGuardType Tryz.prog.depth 50 = false := by kernel_rfl
theorem host_noGuard : Tryz.prog.eqGuardType Tryz.prog.depth 24 = false := by kernel_rfl
/-- Are two URLs one? -/
def eqU (x y : UrlP) : Bool := decide (bytesL x.scheme = bytesL y.scheme ∧ ((x.hk : Int) = (y.hk : Int) ∧ bytesL x.ht = bytesL y.ht) ∧ x.port = y.port ∧ bytesL x.path = bytesL y.path ∧ bytesL x.query = bytesL y.query ∧ bytesL x.frag = bytesL y.frag ∧ x.hasQ = y.hasQ ∧ x.hasF = y.hasF)
theorem eqU_refl (x : UrlP) : eqU x x = true := by unfold eqU; simp
theorem run_eqU (x y : UrlP) (W : World) : (Op.equalIn 10000 50 (.agg (urlCells x)) (.agg (urlCells y))).run Tryz.prog W = .ok (eqU x y) W := run_urlEq _ _ _ _ _ _ _ _ _ _ _ _ _ _ _ _ _ _ W
end
end Go.Proofs.YtbeodjipdpcaiaaGreatDoor
