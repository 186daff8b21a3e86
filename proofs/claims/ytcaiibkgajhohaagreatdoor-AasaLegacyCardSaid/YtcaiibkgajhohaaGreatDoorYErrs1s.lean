/- Texts put together. -/
import Derived.Test.YtcaiibkgajhohaaGreatDoorYLib0s
import Derived.Test.YtcaiibkgajhohaaGreatDoorProg
import Derived.LaidEql
import Derived.Stop.Asserts
import Derived.RowKitTokens
namespace Go.Proofs.YtcaiibkgajhohaaGreatDoor
section
open Go.RowKit Go.Extern.Stop Go.Stop Go.Extern

/-! ### What the tables tell of the types -/
theorem er_typeOf (v : Value) (w : World) : (ReflectliteType.typeOf #[.iface 51 v]).run Tryz.prog w = .ok (.iface 192 (.agg #[.pointer (some ⟨6, 51, none⟩)])) w := by kernel_rfl
theorem er_comparable (w : World) : (ReflectliteType.method (fun t => do Rtype.noPackHeld "Comparable" t; (fun a => Value.bool a.comparable) <$> typeInfo t) #[.agg #[.pointer (some ⟨6, 51, none⟩)]]).run Tryz.prog w = .ok (.bool true) w := by kernel_rfl
theorem er_method (v : Value) (w : World) : (Go.method 440 192 v "Comparable").run Tryz.prog w = .ok (236, v) w := by kernel_rfl
theorem er_hasIs (v : Value) (xT : TypeId) (w : World) : (Instr.typeAssert (.iface 85 v) xT 204 true).run Tryz.prog w = .ok (.tuple #[.iface 85 v, .bool true]) w := run_typeAssert_hasB Tryz.underlying204 (by kernel_rfl) v xT w
theorem er_hasUnwrap (v : Value) (xT : TypeId) (w : World) : (Instr.typeAssert (.iface 85 v) xT 199 true).run Tryz.prog w = .ok (.tuple #[.iface 85 v, .bool true]) w := run_typeAssert_hasB Tryz.underlying199 (by kernel_rfl) v xT w
theorem er_methodIs (v : Value) (w : World) : (Go.method 440 85 v "Is").run Tryz.prog w = .ok (228, v) w := by kernel_rfl
theorem er_methodUnwrap (v : Value) (w : World) : (Go.method 440 85 v "Unwrap").run Tryz.prog w = .ok (229, v) w := by kernel_rfl

theorem er_assertErrno (t : Int) (w : World) : (Instr.typeAssert (.iface 51 (.int .i64 t)) 29 51 true).run Tryz.prog w = .ok (.tuple #[.int .i64 t, .bool true]) w := by kernel_rfl
set_option maxRecDepth 100000 in
theorem faultIs_any (b off : Nat) (k t : Int) (w : World) (hc : w.cell? ⟨b, off, none⟩ = some (.int .i64 k)) :
    Calls Tryz.prog 228 #[.pointer (some ⟨b, off, none⟩), .iface 51 (.int .i64 t)] w fun e w' => e = .returned (.bool (t == k)) ∧ w = w' := by
 have hA := er_assertErrno t
 go_enter Tryz.func228, Tryz.ntmps228
 go_wp2
 go_ret
 exact ⟨rfl, rfl⟩
theorem faultUnwrap_any (b off : Nat) (u : Value) (w : World) (hc : w.cell? ⟨b, off + 2, none⟩ = some u) :
    Calls Tryz.prog 229 #[.pointer (some ⟨b, off, none⟩)] w fun e w' => e = .returned u ∧ w = w' := by
 go_enter Tryz.func229, Tryz.ntmps229
 go_wp2
 go_ret
 exact ⟨rfl, rfl⟩
/-- Which chain an interface value reads as. -/
theorem errD_inj {T : TypeId} {S S' : Nat → Prop} {w : World} : ∀ (c c' : List (Int × Int)) (v : Value), Rd S w v (errD T c) → Rd S' w v (errD T c') → c = c'
 | [], [], _, _, _ => rfl
 | [], (k, a) :: r, v, h, h' => by simp only [errD] at h h'; have := h.nilI_inv; subst this; cases h'
 | (k, a) :: r, [], v, h, h' => by simp only [errD] at h h'; have := h'.nilI_inv; subst this; cases h
 | (k, a) :: r, (k', a') :: r', v, h, h' => by
   simp only [errD] at h h'
   obtain ⟨u, rfl, g⟩ := h.iface_inv
   obtain ⟨u', e, g'⟩ := h'.iface_inv
   cases e
   obtain ⟨b, off, rfl, _, hc⟩ := g.ptr_inv
   obtain ⟨b', off', e, _, hc'⟩ := g'.ptr_inv
   cases e
   obtain ⟨x0, e0, r0⟩ := hc 0 (by simp)
   obtain ⟨x1, e1, r1⟩ := hc 1 (by simp)
   obtain ⟨x2, e2, r2⟩ := hc 2 (by simp)
   obtain ⟨y0, f0, s0⟩ := hc' 0 (by simp)
   obtain ⟨y1, f1, s1⟩ := hc' 1 (by simp)
   obtain ⟨y2, f2, s2⟩ := hc' 2 (by simp)
   rw [e0] at f0; rw [e1] at f1; rw [e2] at f2
   cases f0; cases f1; cases f2
   have a0 := r0.int_inv; have b0 := s0.int_inv
   have a1 := r1.int_inv; have b1 := s1.int_inv
   rw [a0] at b0; rw [a1] at b1
   cases b0; cases b1
   rw [errD_inj r r' x2 r2 s2]
noncomputable def chainLen (T : TypeId) (w : World) (v : Value) : Nat := by
 classical exact if h : ∃ c : List (Int × Int), Rd (fun _ => True) w v (errD T c) then h.choose.length else 0
theorem chainLen_eq {T : TypeId} {S : Nat → Prop} {w : World} {v : Value} {c : List (Int × Int)} (h : Rd S w v (errD T c)) : chainLen T w v = c.length := by
 have hx : ∃ c : List (Int × Int), Rd (fun _ => True) w v (errD T c) := ⟨c, h.wide (fun _ _ => trivial)⟩
 unfold chainLen
 rw [dif_pos hx, errD_inj _ _ v hx.choose_spec h]
/-- A fault, from the chain that it heads. -/
theorem fault_inv {T : TypeId} {S : Nat → Prop} {w : World} {v : Value} {k a : Int} {r : List (Int × Int)} (h : Rd S w v (errD T ((k, a) :: r))) :
    ∃ b off u, v = .iface T (.pointer (some ⟨b, off, none⟩)) ∧ S b ∧ w.cell? ⟨b, off, none⟩ = some (.int .i64 k) ∧ w.cell? ⟨b, off + 1, none⟩ = some (.int .i64 a) ∧ w.cell? ⟨b, off + 2, none⟩ = some u ∧ Rd S w u (errD T r) := by
 simp only [errD] at h
 obtain ⟨p, rfl, g⟩ := h.iface_inv
 obtain ⟨b, off, rfl, hS, hc⟩ := g.ptr_inv
 obtain ⟨x0, e0, r0⟩ := hc 0 (by simp)
 obtain ⟨x1, e1, r1⟩ := hc 1 (by simp)
 obtain ⟨x2, e2, r2⟩ := hc 2 (by simp)
 have a0 := r0.int_inv
 have a1 := r1.int_inv
 subst a0 a1
 exact ⟨b, off, x2, rfl, hS, e0, e1, e2, r2⟩
def IsRel (T : TypeId) (S : Nat → Prop) (w : World) (t : Int) (res : Bool) (v : Value) (wr : World) : Prop := wr = w ∧ ∃ c : List (Int × Int), c ≠ [] ∧ Rd S w v (errD T c) ∧ c.any (fun x => t == x.1) = res
abbrev isKind (c : List (Int × Int)) (t : Int) : Bool := c.any fun x => t == x.1
set_option maxHeartbeats 4000000 in
set_option maxRecDepth 100000 in
theorem is_loop {S : Nat → Prop} (v : Value) (t k a : Int) (r : List (Int × Int)) (w : World) (h : Rd S w v (errD 85 ((k, a) :: r))) :
    Calls Tryz.prog 71 #[v, .iface 51 (.int .i64 t), .bool true] w fun e w' => e = .returned (.bool (isKind ((k, a) :: r) t)) ∧ w = w' := by
 obtain ⟨b, off, u, rfl, hS, c0, c1, c2, hr⟩ := fault_inv h
 have H := Lib.hid h
 clear hS c0 c1 c2 hr h
 go_enter Tryz.func71, Tryz.ntmps71
 go_wp2_with fail
 go_loopw [0] (IsRel 85 S w t (isKind ((k, a) :: r) t)) (fun v _ => chainLen 85 w v)
 case atStart => exact ⟨rfl, _, by simp, H.out, rfl⟩
 case round =>
  obtain ⟨rfl, cc, hne, hv, hres⟩ := hrel
  cases cc with
  | nil => exact absurd rfl hne
  | cons x rr =>
  obtain ⟨k', a'⟩ := x
  have hml := chainLen_eq hv
  obtain ⟨b', off', u', rfl, _, c0, _, c2, hr⟩ := fault_inv hv
  rw [List.any_cons] at hres
  have heq := run_eql_iface_types (P := Tryz.prog) 85 51 (.pointer (some ⟨b', off', none⟩)) (.int .i64 t) Tryz.underlying29 (by decide) wr
  have nI := er_hasIs
  have nU := er_hasUnwrap
  have mI := er_methodIs
  have mU := er_methodUnwrap
  have HRES := Lib.hid hres; have HR := Lib.hid hr; have HML := Lib.hid hml; have HC2 := Lib.hid c2
  clear hres hr hv hne hml c2
  go_wp2_with fail
  refine (faultIs_any b' off' k' t _ c0).mono ?_
  rintro e w1 ⟨rfl, rfl⟩
  cases hk : (t == k') with
  | true =>
    have hres := HRES.out
    rw [hk] at hres
    go_wp2
    go_ret
    exact ⟨by rw [← hres]; rfl, rfl⟩
  | false =>
    go_wp2_with fail
    refine (faultUnwrap_any b' off' u' _ HC2.out).mono ?_
    rintro e w1 ⟨rfl, rfl⟩
    have hres := HRES.out
    rw [hk, Bool.false_or] at hres
    cases rr with
    | nil =>
      have := HR.out
      simp only [errD] at this
      have e := this.nilI_inv
      subst e
      have HRS := Lib.hid hres
      clear hres this
      go_wp2
      go_ret
      exact ⟨by rw [← HRS.out]; rfl, rfl⟩
    | cons y rr =>
      obtain ⟨k2, a2⟩ := y
      obtain ⟨b2, off2, u2, rfl, _⟩ := fault_inv HR.out
      have R : IsRel 85 S wr t (isKind ((k, a) :: r) t) (.iface 85 (.pointer (some ⟨b2, off2, none⟩))) wr := ⟨rfl, _, by simp, HR.out, hres⟩
      have M : chainLen 85 wr (.iface 85 (.pointer (some ⟨b2, off2, none⟩))) < chainLen 85 wr (.iface 85 (.pointer (some ⟨b', off', none⟩))) := by
       rw [chainLen_eq HR.out, HML.out]; simp
      have HRR := Lib.hid R; have HM := Lib.hid M
      clear R M hres
      go_wp2
      refine ⟨?_, HM.out⟩
      have R := HRR.out
      first | exact R | ((repeat apply Exists.intro); exact ⟨R, rfl⟩)
set_option maxHeartbeats 4000000 in
set_option maxRecDepth 100000 in
/-- errors.Is of a chain of faults and a kind. -/
theorem is_any {S : Nat → Prop} (v : Value) (t : Int) (c : List (Int × Int)) (w : World) (h : Rd S w v (errD 85 c)) :
    Calls Tryz.prog 37 #[v, .iface 51 (.int .i64 t)] w fun e w' => e = .returned (.bool (isKind c t)) ∧ w = w' := by
 cases c with
 | nil =>
   simp only [errD] at h
   have e := h.nilI_inv
   subst e
   have hn := run_eql_iface_nil_left (P := Tryz.prog) w 51 (.int .i64 t) Tryz.underlying29
   clear h
   go_enter Tryz.func37, Tryz.ntmps37
   go_wp2
   go_ret
   exact ⟨rfl, rfl⟩
 | cons x r =>
   obtain ⟨k, a⟩ := x
   have h8 := @run_callFunc_extern Tryz.prog 70 _ ReflectliteType.typeOf Tryz.func70 (by kernel_rfl) (by kernel_rfl) (by kernel_rfl) (by kernel_rfl)
   have h32 := @run_callFunc_extern Tryz.prog 236 _ (ReflectliteType.method fun t => do Rtype.noPackHeld "Comparable" t; pure (.bool (← typeInfo t).comparable)) Tryz.func236 (by kernel_rfl) (by kernel_rfl) (by kernel_rfl) (by kernel_rfl)
   have tT := er_typeOf
   have cT := er_comparable
   have mR := er_method
   have L := Lib.hid (is_loop v t k a r w h)
   obtain ⟨b, off, u, rfl, _⟩ := fault_inv h
   clear h
   go_enter Tryz.func37, Tryz.ntmps37
   go_wp2_with fail
   refine L.out.mono ?_
   rintro e w1 ⟨rfl, rfl⟩
   go_wp2
   go_ret
   exact ⟨rfl, rfl⟩
end
section
open Go.RowKit Go.Extern.Stop Go.Stop Go.Extern
theorem as_valueOfPP (t : Addr) (w : World) : (ReflectliteValue.unpack (.iface 87 (.pointer (some t)))).run Tryz.prog w
    = .ok (.agg #[.pointer (some ⟨6, 87, none⟩), .pointer (some ⟨w.heap.size, 0, none⟩), .int .u64 150]) (w.alloc (.cells #[.pointer (some t)] 87)) := by kernel_rfl
theorem as_typePP (a : Addr) (w : World) : (ReflectliteValue.methodAny (ReflectliteValue.valueError "reflectlite.Value.Type" 0) (fun t _ _ _ => ReflectliteType.toType t) #[.agg #[.pointer (some ⟨6, 87, none⟩), .pointer (some a), .int .u64 150]]).run Tryz.prog w
    = .ok (.iface 192 (.agg #[.pointer (some ⟨6, 87, none⟩)])) w := by kernel_rfl
theorem as_methodKind (h : Value) (w : World) : (Go.method 440 192 (.agg #[h]) "Kind").run Tryz.prog w = .ok (222, h) w := by kernel_rfl
theorem as_kindPP (w : World) : ((ReflectliteType.abiMethod fun t => (fun a : Nat => Value.int IntKind.u8 (a : Int)) <$> Rtype.kind t) #[.pointer (some ⟨6, 87, none⟩)]).run Tryz.prog w = .ok (.int .u8 22) w := by kernel_rfl
theorem as_kindP (w : World) : ((ReflectliteType.abiMethod fun t => (fun a : Nat => Value.int IntKind.u8 (a : Int)) <$> Rtype.kind t) #[.pointer (some ⟨6, 85, none⟩)]).run Tryz.prog w = .ok (.int .u8 22) w := by kernel_rfl

theorem rlm (z : Sem Value) (f : TypeId → Addr → Nat → Nat → Sem Value) (v : Value) :
    ReflectliteValue.method z f #[v] = (do match ← ReflectliteValue.parts v with | none => z | some (t, a, fl) => f t a fl (fl % 32)) := rfl
theorem as_partsPP (a : Addr) (w : World) : (ReflectliteValue.parts (.agg #[.pointer (some ⟨6, 87, none⟩), .pointer (some a), .int .u64 150])).run Tryz.prog w = .ok (some (87, a, 150)) w := by kernel_rfl
/-- (Value).IsNil at the Value of a **p.E that is not nil. -/
theorem as_isNilPP (a p : Addr) (W : World) (ha : W.cell? a = some (.pointer (some p))) :
    (ReflectliteValue.method (ReflectliteValue.valueError "reflectlite.Value.IsNil" 0) ReflectliteValue.isNil #[.agg #[.pointer (some ⟨6, 87, none⟩), .pointer (some a), .int .u64 150]]).run Tryz.prog W = .ok (.bool false) W := by
 rw [rlm]
 simp only [Sem.run_bind, as_partsPP, Result.andThen]
 simp [ReflectliteValue.isNil, loadVar, isAgg, underlying, Tryz.underlying87, ha, Result.andThen]

theorem as_methodElem (h : Value) (w : World) : (Go.method 440 192 (.agg #[h]) "Elem").run Tryz.prog w = .ok (237, .agg #[h]) w := by kernel_rfl
theorem as_methodImplements (h : Value) (w : World) : (Go.method 440 192 (.agg #[h]) "Implements").run Tryz.prog w = .ok (238, .agg #[h]) w := by kernel_rfl
theorem as_methodAssignableTo (h : Value) (w : World) : (Go.method 440 192 (.agg #[h]) "AssignableTo").run Tryz.prog w = .ok (235, .agg #[h]) w := by kernel_rfl
theorem as_elemPP (w : World) : (ReflectliteType.method ReflectliteType.elem #[.agg #[.pointer (some ⟨6, 87, none⟩)]]).run Tryz.prog w = .ok (.iface 192 (.agg #[.pointer (some ⟨6, 85, none⟩)])) w := by kernel_rfl
theorem as_implementsP (w : World) : (ReflectliteType.relation "Implements" ReflectliteType.implements_ #[.agg #[.pointer (some ⟨6, 85, none⟩)], .iface 192 (.agg #[.pointer (some ⟨6, 29, none⟩)])]).run Tryz.prog w = .ok (.bool true) w := by kernel_rfl
theorem as_typeOfP (v : Value) (w : World) : (ReflectliteType.typeOf #[.iface 85 v]).run Tryz.prog w = .ok (.iface 192 (.agg #[.pointer (some ⟨6, 85, none⟩)])) w := by kernel_rfl
theorem as_assignableP (w : World) : (ReflectliteType.relation "AssignableTo" ReflectliteType.assignableTo #[.agg #[.pointer (some ⟨6, 85, none⟩)], .iface 192 (.agg #[.pointer (some ⟨6, 85, none⟩)])]).run Tryz.prog w = .ok (.bool true) w := by kernel_rfl
theorem as_valueOfP (e : Addr) (w : World) : (ReflectliteValue.unpack (.iface 85 (.pointer (some e)))).run Tryz.prog w
    = .ok (.agg #[.pointer (some ⟨6, 85, none⟩), .pointer (some ⟨w.heap.size, 0, none⟩), .int .u64 150]) (w.alloc (.cells #[.pointer (some e)] 85)) := by kernel_rfl

theorem as_elemOfPP (w : World) : (Rtype.elem? 87).run Tryz.prog w = .ok (some 85) w := by kernel_rfl
theorem as_mkP (p : Addr) (w : World) : (ReflectliteValue.mk 85 p ReflectliteValue.flagAddr).run Tryz.prog w = .ok (.agg #[.pointer (some ⟨6, 85, none⟩), .pointer (some p), .int .u64 406]) w := by kernel_rfl
/-- (Value).Elem at the Value of a **p.E that is not nil: the Value of the *p.E variable that it points to, addressable. -/
theorem as_elemVPP (a p : Addr) (W : World) (ha : W.cell? a = some (.pointer (some p))) :
    (ReflectliteValue.method (ReflectliteValue.valueError "reflectlite.Value.Elem" 0) ReflectliteValue.elem #[.agg #[.pointer (some ⟨6, 87, none⟩), .pointer (some a), .int .u64 150]]).run Tryz.prog W
      = .ok (.agg #[.pointer (some ⟨6, 85, none⟩), .pointer (some p), .int .u64 406]) W := by
 rw [rlm]
 simp only [Sem.run_bind, as_partsPP, Result.andThen]
 simp [ReflectliteValue.elem, loadVar, isAgg, underlying, Tryz.underlying87, ha, Result.andThen, as_elemOfPP, as_mkP]
theorem rls (v x : Value) : ReflectliteValue.set #[v, x] = (do
    let (some (dst, a, fl), some (src, b, _)) := (← ReflectliteValue.parts v, ← ReflectliteValue.parts x)
     | unsupported (.noEntry "extern/(internal/reflectlite.Value).Set.zeroValue")
    if fl / ReflectliteValue.flagAddr % 2 == 0 then unsupported (.noEntry "extern/(internal/reflectlite.Value).Set.unaddressable")
    let val ← loadVar src b
    if ← Rtype.directlyAssignable dst src then storeVar dst a val
    else if ← Rtype.implements dst src then
     if (← Rtype.kind src) == 20 then
      match val with
      | .nilIface => unsupported (.noEntry "extern/reflectlite: a nil value of one interface type handed on as a value of another")
      | _ => storeVar dst a val
     else storeVar dst a (.iface src val)
    else panicString ("reflectlite.Set: value of type " ++ (← Rtype.spelt src) ++ " is not assignable to type " ++ (← Rtype.spelt dst))
    pure (.tuple #[])) := rfl
theorem as_partsPa (a : Addr) (w : World) : (ReflectliteValue.parts (.agg #[.pointer (some ⟨6, 85, none⟩), .pointer (some a), .int .u64 406])).run Tryz.prog w = .ok (some (85, a, 406)) w := by kernel_rfl
theorem as_partsP (a : Addr) (w : World) : (ReflectliteValue.parts (.agg #[.pointer (some ⟨6, 85, none⟩), .pointer (some a), .int .u64 150])).run Tryz.prog w = .ok (some (85, a, 150)) w := by kernel_rfl
theorem as_directP (w : World) : (Rtype.directlyAssignable 85 85).run Tryz.prog w = .ok true w := by kernel_rfl
/-- (Value).Set: the *p.E variable at 'ta' gets what the Value's own variable 'b' holds. -/
theorem as_setP (ta b e : Addr) (old : Value) (W : World) (hb : W.cell? b = some (.pointer (some e))) (ht : W.cell? ta = some old) (hf : W.frozen? ta = false) :
    (ReflectliteValue.set #[.agg #[.pointer (some ⟨6, 85, none⟩), .pointer (some ta), .int .u64 406], .agg #[.pointer (some ⟨6, 85, none⟩), .pointer (some b), .int .u64 150]]).run Tryz.prog W
      = .ok (.tuple #[]) (W.setCell ta (.pointer (some e))) := by
 rw [rls]
 simp only [Sem.run_bind, as_partsPa, as_partsP, Result.andThen]
 simp [ReflectliteValue.flagAddr, loadVar, isAgg, underlying, Tryz.underlying85, hb, Result.andThen, as_directP, storeVar, Value.cells, storeCells, Addr.add]
 rw [run_store Tryz.prog W ta _ _ (by rfl)]
 simp [ht, hf]

set_option maxHeartbeats 4000000 in
theorem as_hit (e t : Addr) (old : Value) (w : World) (hg : w.cell? ⟨0, 0, none⟩ = some (.iface 192 (.agg #[.pointer (some ⟨6, 29, none⟩)]))) (ht0 : w.cell? t = some old) (hf0 : w.frozen? t = false) :
    Calls Tryz.prog 36 #[.iface 85 (.pointer (some e)), .iface 87 (.pointer (some t))] w fun ev w' => ev = .returned (.bool true) ∧ w' = ((((w.alloc (.cells #[.pointer (some t)] 87)).alloc (.cells #[.pointer (some ⟨6, 87, none⟩), .pointer (some ⟨w.heap.size, 0, none⟩), .int .u64 150] 151)).alloc (.cells #[.pointer (some ⟨6, 87, none⟩), .pointer (some ⟨w.heap.size, 0, none⟩), .int .u64 150] 151)).alloc (.cells #[.pointer (some e)] 85)).setCell t (.pointer (some e)) := by
 have h6 := @run_callFunc_extern Tryz.prog 66 _ (fun args => ReflectliteValue.unpack (args.getD 0 (.tuple #[]))) Tryz.func66 (by kernel_rfl) (by kernel_rfl) (by kernel_rfl) (by kernel_rfl)
 have h7 := @run_callFunc_extern Tryz.prog 67 _ (ReflectliteValue.methodAny (ReflectliteValue.valueError "reflectlite.Value.Type" 0) (fun t _ _ _ => ReflectliteType.toType t)) Tryz.func67 (by kernel_rfl) (by kernel_rfl) (by kernel_rfl) (by kernel_rfl)
 have h8 := @run_callFunc_extern Tryz.prog 68 _ (ReflectliteValue.method (ReflectliteValue.valueError "reflectlite.Value.IsNil" 0) ReflectliteValue.isNil) Tryz.func68 (by kernel_rfl) (by kernel_rfl) (by kernel_rfl) (by kernel_rfl)
 have h27 := @run_callFunc_extern Tryz.prog 222 _ (ReflectliteType.abiMethod fun t => do pure (.int .u8 (← Rtype.kind t))) Tryz.func222 (by kernel_rfl) (by kernel_rfl) (by kernel_rfl) (by kernel_rfl)
 have h37 := @run_callFunc_extern Tryz.prog 237 _ (ReflectliteType.method ReflectliteType.elem) Tryz.func237 (by kernel_rfl) (by kernel_rfl) (by kernel_rfl) (by kernel_rfl)
 have h38 := @run_callFunc_extern Tryz.prog 238 _ (ReflectliteType.relation "Implements" ReflectliteType.implements_) Tryz.func238 (by kernel_rfl) (by kernel_rfl) (by kernel_rfl) (by kernel_rfl)
 have h10 := @run_callFunc_extern Tryz.prog 70 _ ReflectliteType.typeOf Tryz.func70 (by kernel_rfl) (by kernel_rfl) (by kernel_rfl) (by kernel_rfl)
 have h35 := @run_callFunc_extern Tryz.prog 235 _ (ReflectliteType.relation "AssignableTo" ReflectliteType.assignableTo) Tryz.func235 (by kernel_rfl) (by kernel_rfl) (by kernel_rfl) (by kernel_rfl)
 have h11 := @run_callFunc_extern Tryz.prog 104 _ (ReflectliteValue.method (ReflectliteValue.valueError "reflectlite.Value.Elem" 0) ReflectliteValue.elem) Tryz.func104 (by kernel_rfl) (by kernel_rfl) (by kernel_rfl) (by kernel_rfl)
 have h12 := @run_callFunc_extern Tryz.prog 105 _ ReflectliteValue.set Tryz.func105 (by kernel_rfl) (by kernel_rfl) (by kernel_rfl) (by kernel_rfl)
 have tO := as_typeOfP
 have mA := as_methodAssignableTo
 have a25 := as_assignableP
 have v25 := as_valueOfP
 have f6 := as_valueOfPP
 have f7 := as_typePP
 have mK := as_methodKind
 have mE := as_methodElem
 have mI := as_methodImplements
 have k27 := as_kindPP
 have k25 := as_kindP
 have e27 := as_elemPP
 have i25 := as_implementsP
 have n8 := as_isNilPP ⟨w.heap.size, 0, none⟩ t ((w.alloc (.cells #[.pointer (some t)] 87)).alloc (.cells #[.pointer (some ⟨6, 87, none⟩), .pointer (some ⟨w.heap.size, 0, none⟩), .int .u64 150] 151)) (by simp)
 have hlt : 0 < w.heap.size := World.block_lt_of_cell? w ⟨0, 0, none⟩ hg
 have hg2 : ((w.alloc (.cells #[.pointer (some t)] 87)).alloc (.cells #[.pointer (some ⟨6, 87, none⟩), .pointer (some ⟨w.heap.size, 0, none⟩), .int .u64 150] 151)).cell? ⟨0, 0, none⟩ = some (.iface 192 (.agg #[.pointer (some ⟨6, 29, none⟩)])) := by
  rw [World.cell?_alloc_lt _ _ ⟨0, 0, none⟩ (by simp <;> omega), World.cell?_alloc_lt _ _ ⟨0, 0, none⟩ hlt]; exact hg
 have htl : t.block < w.heap.size := by
  rcases Nat.lt_or_ge t.block w.heap.size with h | h
  · exact h
  · simp [World.cell?, Array.getElem?_eq_none h] at ht0
 have el := as_elemVPP ⟨w.heap.size, 0, none⟩ t (((w.alloc (.cells #[.pointer (some t)] 87)).alloc (.cells #[.pointer (some ⟨6, 87, none⟩), .pointer (some ⟨w.heap.size, 0, none⟩), .int .u64 150] 151)).alloc (.cells #[.pointer (some ⟨6, 87, none⟩), .pointer (some ⟨w.heap.size, 0, none⟩), .int .u64 150] 151)) (by rw [World.cell?_alloc_lt _ _ ⟨w.heap.size, 0, none⟩ (by simp; omega)]; simp)
 have st := as_setP t ⟨w.heap.size + 1 + 1 + 1, 0, none⟩ e old ((((w.alloc (.cells #[.pointer (some t)] 87)).alloc (.cells #[.pointer (some ⟨6, 87, none⟩), .pointer (some ⟨w.heap.size, 0, none⟩), .int .u64 150] 151)).alloc (.cells #[.pointer (some ⟨6, 87, none⟩), .pointer (some ⟨w.heap.size, 0, none⟩), .int .u64 150] 151)).alloc (.cells #[.pointer (some e)] 85))
  (by rw [World.cell?_alloc_at _ _ _ _ (by simp)]; rfl)
  (by rw [World.cell?_alloc_lt _ _ t (by simp; omega), World.cell?_alloc_lt _ _ t (by simp; omega), World.cell?_alloc_lt _ _ t (by simp; omega), World.cell?_alloc_lt _ _ t htl]; exact ht0)
  (by rw [World.frozen?_alloc_old _ _ t (by simp; omega), World.frozen?_alloc_old _ _ t (by simp; omega), World.frozen?_alloc_old _ _ t (by simp; omega), World.frozen?_alloc_old _ _ t (Nat.ne_of_lt htl)]; exact hf0)
 go_enter Tryz.func36, Tryz.ntmps36
 go_wp2
 refine wp_loop_rounds 1 ?_
 rw [rounds_succ]
 go_wp2
 go_ret
 exact ⟨rfl, rfl⟩
end
section
open Go.RowKit Go.Extern.Stop Go.Stop Go.Extern
/-- The package errors holds the type of errors. -/
def Glob (w : World) : Prop := w.cell? ⟨0, 0, none⟩ = some (.iface 192 (.agg #[.pointer (some ⟨6, 29, none⟩)]))
theorem Glob.size {w : World} (h : Glob w) : 0 < w.heap.size := World.block_lt_of_cell? w ⟨0, 0, none⟩ h
theorem Glob.ext {w w' : World} (h : Glob w) (hb : Below w.heap.size w w') : Glob w' := by
 unfold Glob; rw [bcell1 hb h.size]; exact h
theorem Glob.alloc {w : World} (h : Glob w) (o : Obj) : Glob (w.alloc o) := h.ext (ext_alloc (Below.refl _ _) o)
theorem as_box (e : Addr) (w : World) (hg : Glob w) :
    Calls Tryz.prog 36 #[.iface 85 (.pointer (some e)), .iface 87 (.pointer (some ⟨w.heap.size, 0, none⟩))] (w.alloc (.cells #[.pointer none] 85)) fun ev w' => ev = .returned (.bool true) ∧ w'.cell? ⟨w.heap.size, 0, none⟩ = some (.pointer (some e)) ∧ w.heap.size < w'.heap.size ∧ Below w.heap.size w w' := by
 refine (as_hit e ⟨w.heap.size, 0, none⟩ (.pointer none) _ (hg.alloc _) (by simp) (by simp)).mono ?_
 rintro ev w' ⟨rfl, rfl⟩
 refine ⟨rfl, World.cell?_setCell_same _ _ _ (u := .pointer none) (cell_alloc _ (cell_alloc _ (cell_alloc _ (cell_alloc _ (by simp))))), by simp; omega, ?_⟩
 exact (ext_alloc (ext_alloc (ext_alloc (ext_alloc (ext_alloc (Below.refl _ _) _) _) _) _) _).setCell (Nat.le_refl _) _
def kindI : List (Int × Int) → Int
 | [] => 0
 | x :: _ => x.1
def atI : List (Int × Int) → Int
 | [] => -1
 | x :: _ => x.2
set_option maxRecDepth 100000 in
set_option maxHeartbeats 4000000 in
theorem kind_any (v : Value) (c : List (Int × Int)) (w : World) (hg : Glob w) (h : Rd (Own w) w v (errD 85 c)) :
    Calls Tryz.prog 15 #[v] w fun e w' => e = .returned (.int .i64 (kindI c)) ∧ Below w.heap.size w w' := by
 cases c with
 | nil =>
   simp only [errD] at h
   have e := h.nilI_inv
   subst e
   clear h hg
   go_enter Tryz.func15, Tryz.ntmps15
   go_wp2
   go_ret
   exact ⟨rfl, Below.refl _ _⟩
 | cons x r =>
   obtain ⟨k, a⟩ := x
   obtain ⟨b, off, u, rfl, hS, c0, _, _, _⟩ := fault_inv h
   have A := Lib.hid (as_box ⟨b, off, none⟩ w hg)
   have hS' : b < w.heap.size := hS
   clear h hg hS
   go_enter Tryz.func15, Tryz.ntmps15
   go_wp2_with fail
   refine A.out.mono ?_
   rintro e w1 ⟨rfl, hc, hz, hb⟩
   rw [← bcell1 hb hS'] at c0
   have HB := Lib.hid hb; clear hb
   go_wp2
   go_ret
   exact ⟨rfl, HB.out⟩
set_option maxRecDepth 100000 in
set_option maxHeartbeats 4000000 in
theorem at_any (v : Value) (c : List (Int × Int)) (w : World) (hg : Glob w) (h : Rd (Own w) w v (errD 85 c)) :
    Calls Tryz.prog 16 #[v] w fun e w' => e = .returned (.int .i64 (atI c)) ∧ Below w.heap.size w w' := by
 cases c with
 | nil =>
   simp only [errD] at h
   have e := h.nilI_inv
   subst e
   have hb := Lib.hid (ext_alloc (Below.refl w.heap.size w) (.cells #[.pointer none] 85))
   clear h hg
   go_enter Tryz.func16, Tryz.ntmps16
   go_wp2
   go_ret
   exact ⟨rfl, hb.out⟩
 | cons x r =>
   obtain ⟨k, a⟩ := x
   obtain ⟨b, off, u, rfl, hS, _, c1, _, _⟩ := fault_inv h
   have A := Lib.hid (as_box ⟨b, off, none⟩ w hg)
   have hS' : b < w.heap.size := hS
   clear h hg hS
   go_enter Tryz.func16, Tryz.ntmps16
   go_wp2_with fail
   refine A.out.mono ?_
   rintro e w1 ⟨rfl, hc, hz, hb⟩
   rw [← bcell1 hb hS'] at c1
   have HB := Lib.hid hb; clear hb
   go_wp2
   go_ret
   exact ⟨rfl, HB.out⟩
theorem has_any {S : Nat → Prop} (v : Value) (t : Int) (c : List (Int × Int)) (w : World) (h : Rd S w v (errD 85 c)) :
    Calls Tryz.prog 17 #[v, .int .i64 t] w fun e w' => e = .returned (.bool (isKind c t)) ∧ w = w' := by
 cases c with
 | nil =>
   simp only [errD] at h
   have e := h.nilI_inv
   subst e
   clear h
   go_enter Tryz.func17, Tryz.ntmps17
   go_wp2
   go_ret
   exact ⟨rfl, rfl⟩
 | cons x r =>
   obtain ⟨k, a⟩ := x
   have L := Lib.hid (is_any v t ((k, a) :: r) w h)
   obtain ⟨b, off, u, rfl, _⟩ := fault_inv h
   clear h
   go_enter Tryz.func17, Tryz.ntmps17
   go_wp2_with fail
   refine L.out.mono ?_
   rintro e w1 ⟨rfl, rfl⟩
   go_wp2
   go_ret
   exact ⟨rfl, rfl⟩
theorem Rd.fault {w : World} {k a : Int} {u : Value} {c : List (Int × Int)} (h : Rd (Own w) w u (errD 85 c)) :
    Rd (Own (w.alloc (.cells #[.int .i64 k, .int .i64 a, u] 89))) (w.alloc (.cells #[.int .i64 k, .int .i64 a, u] 89)) (.iface 85 (.pointer (some ⟨w.heap.size, 0, none⟩))) (errD 85 ((k, a) :: c)) := by
 have h' := h.ext (ext_alloc (Below.refl _ _) (.cells #[.int .i64 k, .int .i64 a, u] 89))
 simp only [errD]
 refine .iface _ _ _ (.ptr _ _ _ (fun j => (#[Value.int .i64 k, .int .i64 a, u][j]?).getD undef) (by show w.heap.size < _; simp) (fun j hj => ?_) (fun j hj => ?_))
 · have hj' : j = 0 ∨ j = 1 ∨ j = 2 := by simp at hj; omega
   rcases hj' with rfl | rfl | rfl <;> simp
 · have hj' : j = 0 ∨ j = 1 ∨ j = 2 := by simp at hj; omega
   rcases hj' with rfl | rfl | rfl
   · exact .int _ _
   · exact .int _ _
   · exact h'
theorem fail_any (k a : Int) (w : World) : Calls Tryz.prog 42 #[.int .i64 k, .int .i64 a] w fun e w' =>
    e = .returned (.iface 85 (.pointer (some ⟨w.heap.size, 0, none⟩))) ∧ w' = w.alloc (.cells #[.int .i64 k, .int .i64 a, .nilIface] 89) := by
 go_enter Tryz.func42, Tryz.ntmps42
 go_wp2
 go_ret
 exact ⟨rfl, rfl⟩
theorem wrap_any {S : Nat → Prop} (k a : Int) (u : Value) (c : List (Int × Int)) (w : World) (h : Rd S w u (errD 85 c)) : Calls Tryz.prog 25 #[.int .i64 k, .int .i64 a, u] w fun e w' =>
    e = .returned (.iface 85 (.pointer (some ⟨w.heap.size, 0, none⟩))) ∧ w' = w.alloc (.cells #[.int .i64 k, .int .i64 a, u] 89) := by
 cases c with
 | nil =>
   simp only [errD] at h
   have e := h.nilI_inv
   subst e
   clear h
   go_enter Tryz.func25, Tryz.ntmps25
   go_wp2
   go_ret
   exact ⟨rfl, rfl⟩
 | cons x r =>
   obtain ⟨k', a'⟩ := x
   obtain ⟨b, off, u, rfl, _⟩ := fault_inv h
   clear h
   go_enter Tryz.func25, Tryz.ntmps25
   go_wp2
   go_ret
   exact ⟨rfl, rfl⟩
theorem Rd.failed (k a : Int) (w : World) : Rd (Own (w.alloc (.cells #[.int .i64 k, .int .i64 a, .nilIface] 89))) (w.alloc (.cells #[.int .i64 k, .int .i64 a, .nilIface] 89)) (.iface 85 (.pointer (some ⟨w.heap.size, 0, none⟩))) (errD 85 [(k, a)]) :=
 Rd.fault (c := []) (by simp only [errD]; exact .nilI)
theorem Rd.failedF (k a : Int) (w : World) : Rd (fun b => b = w.heap.size) (w.alloc (.cells #[.int .i64 k, .int .i64 a, .nilIface] 89)) (.iface 85 (.pointer (some ⟨w.heap.size, 0, none⟩))) (errD 85 [(k, a)]) := by
 simp only [errD]
 refine .iface _ _ _ (.ptr _ _ _ (fun j => (#[Value.int .i64 k, .int .i64 a, .nilIface][j]?).getD undef) rfl (fun j hj => ?_) (fun j hj => ?_))
 · have hj' : j = 0 ∨ j = 1 ∨ j = 2 := by simp at hj; omega
   rcases hj' with rfl | rfl | rfl <;> simp
 · have hj' : j = 0 ∨ j = 1 ∨ j = 2 := by simp at hj; omega
   rcases hj' with rfl | rfl | rfl
   · exact .int _ _
   · exact .int _ _
   · exact .nilI
end
end Go.Proofs.YtcaiibkgajhohaaGreatDoor
