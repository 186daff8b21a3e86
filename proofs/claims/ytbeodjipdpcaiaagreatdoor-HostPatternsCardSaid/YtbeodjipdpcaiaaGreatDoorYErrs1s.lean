/- Texts put together. -/
import Derived.Test.YtbeodjipdpcaiaaGreatDoorYLib0s
import Derived.Test.YtbeodjipdpcaiaaGreatDoorProg
import Derived.LaidEql
import Derived.Stop.Asserts
import Derived.RowKitTokens
import Derived.Test.YtbeodjipdpcaiaaGreatDoorRows
import Derived.LaidHandle
import Derived.Stop.Joined
set_option maxRecDepth 100000
set_option maxHeartbeats 4000000
namespace Go.Proofs.YtbeodjipdpcaiaaGreatDoor
section
open Go.RowKit Go.Extern.Stop Go.Stop Go.Extern

/-! ### What the tables tell of the types -/
theorem er_typeOf (v : Value) (w : World) : (ReflectliteType.typeOf #[.iface 73 v]).run Tryz.prog w = .ok (.iface 227 (.agg #[.pointer (some ⟨5, 73, none⟩)])) w := by kernel_rfl
theorem er_comparable (w : World) : (ReflectliteType.method (fun t => do Rtype.noPackHeld "Comparable" t; (fun a => Value.bool a.comparable) <$> typeInfo t) #[.agg #[.pointer (some ⟨5, 73, none⟩)]]).run Tryz.prog w = .ok (.bool true) w := by kernel_rfl
theorem er_method (v : Value) (w : World) : (Go.method 432 227 v "Comparable").run Tryz.prog w = .ok (308, v) w := by kernel_rfl
theorem er_hasIs (v : Value) (xT : TypeId) (w : World) : (Instr.typeAssert (.iface 119 v) xT 263 true).run Tryz.prog w = .ok (.tuple #[.iface 119 v, .bool true]) w := run_typeAssert_hasB Tryz.underlying263 (by kernel_rfl) v xT w
theorem er_hasUnwrap (v : Value) (xT : TypeId) (w : World) : (Instr.typeAssert (.iface 119 v) xT 234 true).run Tryz.prog w = .ok (.tuple #[.iface 119 v, .bool true]) w := run_typeAssert_hasB Tryz.underlying234 (by kernel_rfl) v xT w
theorem er_methodIs (v : Value) (w : World) : (Go.method 432 119 v "Is").run Tryz.prog w = .ok (300, v) w := by kernel_rfl
theorem er_methodUnwrap (v : Value) (w : World) : (Go.method 432 119 v "Unwrap").run Tryz.prog w = .ok (301, v) w := by kernel_rfl

theorem er_assertErrno (t : Int) (w : World) : (Instr.typeAssert (.iface 73 (.int .i64 t)) 26 73 true).run Tryz.prog w = .ok (.tuple #[.int .i64 t, .bool true]) w := by kernel_rfl
theorem faultIs_any (b off : Nat) (k t : Int) (w : World) (hc : w.cell? ⟨b, off, none⟩ = some (.int .i64 k)) :
    Calls Tryz.prog 300 #[.pointer (some ⟨b, off, none⟩), .iface 73 (.int .i64 t)] w fun e w' => e = .returned (.bool (t == k)) ∧ w = w' := by
 have hA := er_assertErrno t
 go_enter Tryz.func300, Tryz.ntmps300
 go_wp2
 go_ret
 exact ⟨rfl, rfl⟩
theorem faultUnwrap_any (b off : Nat) (u : Value) (w : World) (hc : w.cell? ⟨b, off + 2, none⟩ = some u) :
    Calls Tryz.prog 301 #[.pointer (some ⟨b, off, none⟩)] w fun e w' => e = .returned u ∧ w = w' := by
 go_enter Tryz.func301, Tryz.ntmps301
 go_wp2
 go_ret
 exact ⟨rfl, rfl⟩
theorem errD_inj {T : TypeId} {S S' : Nat → Prop} {w : World} : ∀ (c c' : List (Int × Int)) (v : Value), Rd S w v (errD T c) → Rd S' w v (errD T c') → c = c'
 | [], [], _, _, _ => rfl
 | [], (k, a) :: r, v, h, h' => by simp only [errD] at h h'; have := h.nilI_inv; subst this; cases h'
 | (k, a) :: r, [], v, h, h' => by simp only [errD] at h h'; have := h'.nilI_inv; subst this; cases h
 | (k, a) :: r, (k', a') :: r', v, h, h' => by
   simp only [errD] at h h'
   obtain ⟨u, rfl, g⟩ := h.iface_inv
   obtain ⟨u', e, g'⟩ := h'.iface_inv
   cases e
   obtain ⟨b, off, rfl, _, hc⟩ := g.ptr_inv
   obtain ⟨b', off', e, _, hc'⟩ := g'.ptr_inv
   cases e
   obtain ⟨x0, e0, r0⟩ := hc 0 (by simp)
   obtain ⟨x1, e1, r1⟩ := hc 1 (by simp)
   obtain ⟨x2, e2, r2⟩ := hc 2 (by simp)
   obtain ⟨y0, f0, s0⟩ := hc' 0 (by simp)
   obtain ⟨y1, f1, s1⟩ := hc' 1 (by simp)
   obtain ⟨y2, f2, s2⟩ := hc' 2 (by simp)
   rw [e0] at f0; rw [e1] at f1; rw [e2] at f2
   cases f0; cases f1; cases f2
   have a0 := r0.int_inv; have b0 := s0.int_inv
   have a1 := r1.int_inv; have b1 := s1.int_inv
   rw [a0] at b0; rw [a1] at b1
   cases b0; cases b1
   rw [errD_inj r r' x2 r2 s2]
noncomputable def chainLen (T : TypeId) (w : World) (v : Value) : Nat := by
 classical exact if h : ∃ c : List (Int × Int), Rd (fun _ => True) w v (errD T c) then h.choose.length else 0
theorem chainLen_eq {T : TypeId} {S : Nat → Prop} {w : World} {v : Value} {c : List (Int × Int)} (h : Rd S w v (errD T c)) : chainLen T w v = c.length := by
 have hx : ∃ c : List (Int × Int), Rd (fun _ => True) w v (errD T c) := ⟨c, h.wide (fun _ _ => trivial)⟩
 unfold chainLen
 rw [dif_pos hx, errD_inj _ _ v hx.choose_spec h]
theorem fault_inv {T : TypeId} {S : Nat → Prop} {w : World} {v : Value} {k a : Int} {r : List (Int × Int)} (h : Rd S w v (errD T ((k, a) :: r))) :
    ∃ b off u, v = .iface T (.pointer (some ⟨b, off, none⟩)) ∧ S b ∧ w.cell? ⟨b, off, none⟩ = some (.int .i64 k) ∧ w.cell? ⟨b, off + 1, none⟩ = some (.int .i64 a) ∧ w.cell? ⟨b, off + 2, none⟩ = some u ∧ Rd S w u (errD T r) := by
 simp only [errD] at h
 obtain ⟨p, rfl, g⟩ := h.iface_inv
 obtain ⟨b, off, rfl, hS, hc⟩ := g.ptr_inv
 obtain ⟨x0, e0, r0⟩ := hc 0 (by simp)
 obtain ⟨x1, e1, r1⟩ := hc 1 (by simp)
 obtain ⟨x2, e2, r2⟩ := hc 2 (by simp)
 have a0 := r0.int_inv
 have a1 := r1.int_inv
 subst a0 a1
 exact ⟨b, off, x2, rfl, hS, e0, e1, e2, r2⟩
def IsRel (T : TypeId) (S : Nat → Prop) (w : World) (t : Int) (res : Bool) (v : Value) (wr : World) : Prop := wr = w ∧ ∃ c : List (Int × Int), c ≠ [] ∧ Rd S w v (errD T c) ∧ c.any (fun x => t == x.1) = res
abbrev isKind (c : List (Int × Int)) (t : Int) : Bool := c.any fun x => t == x.1
theorem is_loop {S : Nat → Prop} (v : Value) (t k a : Int) (r : List (Int × Int)) (w : World) (h : Rd S w v (errD 119 ((k, a) :: r))) :
    Calls Tryz.prog 197 #[v, .iface 73 (.int .i64 t), .bool true] w fun e w' => e = .returned (.bool (isKind ((k, a) :: r) t)) ∧ w = w' := by
 obtain ⟨b, off, u, rfl, hS, c0, c1, c2, hr⟩ := fault_inv h
 have H := hid h
 clear hS c0 c1 c2 hr h
 go_enter Tryz.func197, Tryz.ntmps197
 go_wp2_with fail
 go_loopw [0] (IsRel 119 S w t (isKind ((k, a) :: r) t)) (fun v _ => chainLen 119 w v)
 case atStart => exact ⟨rfl, _, by simp, H.out, rfl⟩
 case round =>
  obtain ⟨rfl, cc, hne, hv, hres⟩ := hrel
  cases cc with
  | nil => exact absurd rfl hne
  | cons x rr =>
  obtain ⟨k', a'⟩ := x
  have hml := chainLen_eq hv
  obtain ⟨b', off', u', rfl, _, c0, _, c2, hr⟩ := fault_inv hv
  rw [List.any_cons] at hres
  have heq := run_eql_iface_types (P := Tryz.prog) 119 73 (.pointer (some ⟨b', off', none⟩)) (.int .i64 t) Tryz.underlying26 (by decide) wr
  have nI := er_hasIs
  have nU := er_hasUnwrap
  have mI := er_methodIs
  have mU := er_methodUnwrap
  have HRES := hid hres; have HR := hid hr; have HML := hid hml; have HC2 := hid c2
  clear hres hr hv hne hml c2
  go_wp2_with fail
  refine (faultIs_any b' off' k' t _ c0).mono ?_
  rintro e w1 ⟨rfl, rfl⟩
  cases hk : (t == k') with
  | true =>
    have hres := HRES.out
    rw [hk] at hres
    go_wp2
    go_ret
    exact ⟨by rw [← hres]; rfl, rfl⟩
  | false =>
    go_wp2_with fail
    refine (faultUnwrap_any b' off' u' _ HC2.out).mono ?_
    rintro e w1 ⟨rfl, rfl⟩
    have hres := HRES.out
    rw [hk, Bool.false_or] at hres
    cases rr with
    | nil =>
      have := HR.out
      simp only [errD] at this
      have e := this.nilI_inv
      subst e
      have HRS := hid hres
      clear hres this
      go_wp2
      go_ret
      exact ⟨by rw [← HRS.out]; rfl, rfl⟩
    | cons y rr =>
      obtain ⟨k2, a2⟩ := y
      obtain ⟨b2, off2, u2, rfl, _⟩ := fault_inv HR.out
      have R : IsRel 119 S wr t (isKind ((k, a) :: r) t) (.iface 119 (.pointer (some ⟨b2, off2, none⟩))) wr := ⟨rfl, _, by simp, HR.out, hres⟩
      have M : chainLen 119 wr (.iface 119 (.pointer (some ⟨b2, off2, none⟩))) < chainLen 119 wr (.iface 119 (.pointer (some ⟨b', off', none⟩))) := by
       rw [chainLen_eq HR.out, HML.out]; simp
      have HRR := hid R; have HM := hid M
      clear R M hres
      go_wp2
      refine ⟨?_, HM.out⟩
      first | exact HRR.out | ((repeat apply Exists.intro); exact ⟨HRR.out, rfl⟩)
theorem is_any {S : Nat → Prop} (v : Value) (t : Int) (c : List (Int × Int)) (w : World) (h : Rd S w v (errD 119 c)) :
    Calls Tryz.prog 140 #[v, .iface 73 (.int .i64 t)] w fun e w' => e = .returned (.bool (isKind c t)) ∧ w = w' := by
 cases c with
 | nil =>
   simp only [errD] at h
   have e := h.nilI_inv
   subst e
   have hn := run_eql_iface_nil_left (P := Tryz.prog) w 73 (.int .i64 t) Tryz.underlying26
   clear h
   go_enter Tryz.func140, Tryz.ntmps140
   go_wp2
   go_ret
   exact ⟨rfl, rfl⟩
 | cons x r =>
   obtain ⟨k, a⟩ := x
   have h8 := @run_callFunc_extern Tryz.prog 196 _ ReflectliteType.typeOf Tryz.func196 (by kernel_rfl) (by kernel_rfl) (by kernel_rfl) (by kernel_rfl)
   have h32 := @run_callFunc_extern Tryz.prog 308 _ (ReflectliteType.method fun t => do Rtype.noPackHeld "Comparable" t; pure (.bool (← typeInfo t).comparable)) Tryz.func308 (by kernel_rfl) (by kernel_rfl) (by kernel_rfl) (by kernel_rfl)
   have tT := er_typeOf
   have cT := er_comparable
   have mR := er_method
   have L := hid (is_loop v t k a r w h)
   obtain ⟨b, off, u, rfl, _⟩ := fault_inv h
   clear h
   go_enter Tryz.func140, Tryz.ntmps140
   go_wp2_with fail
   refine L.out.mono ?_
   rintro e w1 ⟨rfl, rfl⟩
   go_wp2
   go_ret
   exact ⟨rfl, rfl⟩
end
section
open Go.RowKit Go.Extern.Stop Go.Stop Go.Extern
theorem as_valueOfPP (t : Addr) (w : World) : (ReflectliteValue.unpack (.iface 121 (.pointer (some t)))).run Tryz.prog w
    = .ok (.agg #[.pointer (some ⟨5, 121, none⟩), .pointer (some ⟨w.heap.size, 0, none⟩), .int .u64 150]) (w.alloc (.cells #[.pointer (some t)] 121)) := by kernel_rfl
theorem as_typePP (a : Addr) (w : World) : (ReflectliteValue.methodAny (ReflectliteValue.valueError "reflectlite.Value.Type" 0) (fun t _ _ _ => ReflectliteType.toType t) #[.agg #[.pointer (some ⟨5, 121, none⟩), .pointer (some a), .int .u64 150]]).run Tryz.prog w
    = .ok (.iface 227 (.agg #[.pointer (some ⟨5, 121, none⟩)])) w := by kernel_rfl
theorem as_methodKind (h : Value) (w : World) : (Go.method 432 227 (.agg #[h]) "Kind").run Tryz.prog w = .ok (295, h) w := by kernel_rfl
theorem as_kindPP (w : World) : ((ReflectliteType.abiMethod fun t => (fun a : Nat => Value.int IntKind.u8 (a : Int)) <$> Rtype.kind t) #[.pointer (some ⟨5, 121, none⟩)]).run Tryz.prog w = .ok (.int .u8 22) w := by kernel_rfl
theorem as_kindP (w : World) : ((ReflectliteType.abiMethod fun t => (fun a : Nat => Value.int IntKind.u8 (a : Int)) <$> Rtype.kind t) #[.pointer (some ⟨5, 119, none⟩)]).run Tryz.prog w = .ok (.int .u8 22) w := by kernel_rfl

theorem rlm (z : Sem Value) (f : TypeId → Addr → Nat → Nat → Sem Value) (v : Value) :
    ReflectliteValue.method z f #[v] = (do match ← ReflectliteValue.parts v with | none => z | some (t, a, fl) => f t a fl (fl % 32)) := rfl
theorem as_partsPP (a : Addr) (w : World) : (ReflectliteValue.parts (.agg #[.pointer (some ⟨5, 121, none⟩), .pointer (some a), .int .u64 150])).run Tryz.prog w = .ok (some (121, a, 150)) w := by kernel_rfl
theorem as_isNilPP (a p : Addr) (W : World) (ha : W.cell? a = some (.pointer (some p))) :
    (ReflectliteValue.method (ReflectliteValue.valueError "reflectlite.Value.IsNil" 0) ReflectliteValue.isNil #[.agg #[.pointer (some ⟨5, 121, none⟩), .pointer (some a), .int .u64 150]]).run Tryz.prog W = .ok (.bool false) W := by
 rw [rlm]
 simp only [Sem.run_bind, as_partsPP, Result.andThen]
 simp [ReflectliteValue.isNil, loadVar, isAgg, underlying, Tryz.underlying121, ha, Result.andThen]

theorem as_methodElem (h : Value) (w : World) : (Go.method 432 227 (.agg #[h]) "Elem").run Tryz.prog w = .ok (309, .agg #[h]) w := by kernel_rfl
theorem as_methodImplements (h : Value) (w : World) : (Go.method 432 227 (.agg #[h]) "Implements").run Tryz.prog w = .ok (310, .agg #[h]) w := by kernel_rfl
theorem as_methodAssignableTo (h : Value) (w : World) : (Go.method 432 227 (.agg #[h]) "AssignableTo").run Tryz.prog w = .ok (307, .agg #[h]) w := by kernel_rfl
theorem as_elemPP (w : World) : (ReflectliteType.method ReflectliteType.elem #[.agg #[.pointer (some ⟨5, 121, none⟩)]]).run Tryz.prog w = .ok (.iface 227 (.agg #[.pointer (some ⟨5, 119, none⟩)])) w := by kernel_rfl
theorem as_implementsP (w : World) : (ReflectliteType.relation "Implements" ReflectliteType.implements_ #[.agg #[.pointer (some ⟨5, 119, none⟩)], .iface 227 (.agg #[.pointer (some ⟨5, 26, none⟩)])]).run Tryz.prog w = .ok (.bool true) w := by kernel_rfl
theorem as_typeOfP (v : Value) (w : World) : (ReflectliteType.typeOf #[.iface 119 v]).run Tryz.prog w = .ok (.iface 227 (.agg #[.pointer (some ⟨5, 119, none⟩)])) w := by kernel_rfl
theorem as_assignableP (w : World) : (ReflectliteType.relation "AssignableTo" ReflectliteType.assignableTo #[.agg #[.pointer (some ⟨5, 119, none⟩)], .iface 227 (.agg #[.pointer (some ⟨5, 119, none⟩)])]).run Tryz.prog w = .ok (.bool true) w := by kernel_rfl
theorem as_valueOfP (e : Addr) (w : World) : (ReflectliteValue.unpack (.iface 119 (.pointer (some e)))).run Tryz.prog w
    = .ok (.agg #[.pointer (some ⟨5, 119, none⟩), .pointer (some ⟨w.heap.size, 0, none⟩), .int .u64 150]) (w.alloc (.cells #[.pointer (some e)] 119)) := by kernel_rfl

theorem as_elemOfPP (w : World) : (Rtype.elem? 121).run Tryz.prog w = .ok (some 119) w := by kernel_rfl
theorem as_mkP (p : Addr) (w : World) : (ReflectliteValue.mk 119 p ReflectliteValue.flagAddr).run Tryz.prog w = .ok (.agg #[.pointer (some ⟨5, 119, none⟩), .pointer (some p), .int .u64 406]) w := by kernel_rfl
theorem as_elemVPP (a p : Addr) (W : World) (ha : W.cell? a = some (.pointer (some p))) :
    (ReflectliteValue.method (ReflectliteValue.valueError "reflectlite.Value.Elem" 0) ReflectliteValue.elem #[.agg #[.pointer (some ⟨5, 121, none⟩), .pointer (some a), .int .u64 150]]).run Tryz.prog W
      = .ok (.agg #[.pointer (some ⟨5, 119, none⟩), .pointer (some p), .int .u64 406]) W := by
 rw [rlm]
 simp only [Sem.run_bind, as_partsPP, Result.andThen]
 simp [ReflectliteValue.elem, loadVar, isAgg, underlying, Tryz.underlying121, ha, Result.andThen, as_elemOfPP, as_mkP]
theorem rls (v x : Value) : ReflectliteValue.set #[v, x] = (do
    let (some (dst, a, fl), some (src, b, _)) := (← ReflectliteValue.parts v, ← ReflectliteValue.parts x)
     | unsupported (.noEntry "extern/(internal/reflectlite.Value).Set.zeroValue")
    if fl / ReflectliteValue.flagAddr % 2 == 0 then unsupported (.noEntry "extern/(internal/reflectlite.Value).Set.unaddressable")
    let val ← loadVar src b
    if ← Rtype.directlyAssignable dst src then storeVar dst a val
    else if ← Rtype.implements dst src then
     if (← Rtype.kind src) == 20 then
      match val with
      | .nilIface => unsupported (.noEntry "extern/reflectlite: a nil value of one interface type handed on as a value of another")
      | _ => storeVar dst a val
     else storeVar dst a (.iface src val)
    else panicString ("reflectlite.Set: value of type " ++ (← Rtype.spelt src) ++ " is not assignable to type " ++ (← Rtype.spelt dst))
    pure (.tuple #[])) := rfl
theorem as_partsPa (a : Addr) (w : World) : (ReflectliteValue.parts (.agg #[.pointer (some ⟨5, 119, none⟩), .pointer (some a), .int .u64 406])).run Tryz.prog w = .ok (some (119, a, 406)) w := by kernel_rfl
theorem as_partsP (a : Addr) (w : World) : (ReflectliteValue.parts (.agg #[.pointer (some ⟨5, 119, none⟩), .pointer (some a), .int .u64 150])).run Tryz.prog w = .ok (some (119, a, 150)) w := by kernel_rfl
theorem as_directP (w : World) : (Rtype.directlyAssignable 119 119).run Tryz.prog w = .ok true w := by kernel_rfl
theorem as_setP (ta b e : Addr) (old : Value) (W : World) (hb : W.cell? b = some (.pointer (some e))) (ht : W.cell? ta = some old) (hf : W.frozen? ta = false) :
    (ReflectliteValue.set #[.agg #[.pointer (some ⟨5, 119, none⟩), .pointer (some ta), .int .u64 406], .agg #[.pointer (some ⟨5, 119, none⟩), .pointer (some b), .int .u64 150]]).run Tryz.prog W
      = .ok (.tuple #[]) (W.setCell ta (.pointer (some e))) := by
 rw [rls]
 simp only [Sem.run_bind, as_partsPa, as_partsP, Result.andThen]
 simp [ReflectliteValue.flagAddr, loadVar, isAgg, underlying, Tryz.underlying119, hb, Result.andThen, as_directP, storeVar, Value.cells, storeCells, Addr.add]
 rw [run_store Tryz.prog W ta _ _ (by rfl)]
 simp [ht, hf]

theorem as_hit (e t : Addr) (old : Value) (w : World) (hg : w.cell? ⟨0, 0, none⟩ = some (.iface 227 (.agg #[.pointer (some ⟨5, 26, none⟩)]))) (ht0 : w.cell? t = some old) (hf0 : w.frozen? t = false) :
    Calls Tryz.prog 95 #[.iface 119 (.pointer (some e)), .iface 121 (.pointer (some t))] w fun ev w' => ev = .returned (.bool true) ∧ w' = ((((w.alloc (.cells #[.pointer (some t)] 121)).alloc (.cells #[.pointer (some ⟨5, 121, none⟩), .pointer (some ⟨w.heap.size, 0, none⟩), .int .u64 150] 184)).alloc (.cells #[.pointer (some ⟨5, 121, none⟩), .pointer (some ⟨w.heap.size, 0, none⟩), .int .u64 150] 184)).alloc (.cells #[.pointer (some e)] 119)).setCell t (.pointer (some e)) := by
 have h6 := @run_callFunc_extern Tryz.prog 158 _ (fun args => ReflectliteValue.unpack (args.getD 0 (.tuple #[]))) Tryz.func158 (by kernel_rfl) (by kernel_rfl) (by kernel_rfl) (by kernel_rfl)
 have h7 := @run_callFunc_extern Tryz.prog 159 _ (ReflectliteValue.methodAny (ReflectliteValue.valueError "reflectlite.Value.Type" 0) (fun t _ _ _ => ReflectliteType.toType t)) Tryz.func159 (by kernel_rfl) (by kernel_rfl) (by kernel_rfl) (by kernel_rfl)
 have h8 := @run_callFunc_extern Tryz.prog 160 _ (ReflectliteValue.method (ReflectliteValue.valueError "reflectlite.Value.IsNil" 0) ReflectliteValue.isNil) Tryz.func160 (by kernel_rfl) (by kernel_rfl) (by kernel_rfl) (by kernel_rfl)
 have h27 := @run_callFunc_extern Tryz.prog 295 _ (ReflectliteType.abiMethod fun t => do pure (.int .u8 (← Rtype.kind t))) Tryz.func295 (by kernel_rfl) (by kernel_rfl) (by kernel_rfl) (by kernel_rfl)
 have h37 := @run_callFunc_extern Tryz.prog 309 _ (ReflectliteType.method ReflectliteType.elem) Tryz.func309 (by kernel_rfl) (by kernel_rfl) (by kernel_rfl) (by kernel_rfl)
 have h38 := @run_callFunc_extern Tryz.prog 310 _ (ReflectliteType.relation "Implements" ReflectliteType.implements_) Tryz.func310 (by kernel_rfl) (by kernel_rfl) (by kernel_rfl) (by kernel_rfl)
 have h10 := @run_callFunc_extern Tryz.prog 196 _ ReflectliteType.typeOf Tryz.func196 (by kernel_rfl) (by kernel_rfl) (by kernel_rfl) (by kernel_rfl)
 have h35 := @run_callFunc_extern Tryz.prog 307 _ (ReflectliteType.relation "AssignableTo" ReflectliteType.assignableTo) Tryz.func307 (by kernel_rfl) (by kernel_rfl) (by kernel_rfl) (by kernel_rfl)
 have h11 := @run_callFunc_extern Tryz.prog 211 _ (ReflectliteValue.method (ReflectliteValue.valueError "reflectlite.Value.Elem" 0) ReflectliteValue.elem) Tryz.func211 (by kernel_rfl) (by kernel_rfl) (by kernel_rfl) (by kernel_rfl)
 have h12 := @run_callFunc_extern Tryz.prog 212 _ ReflectliteValue.set Tryz.func212 (by kernel_rfl) (by kernel_rfl) (by kernel_rfl) (by kernel_rfl)
 have tO := as_typeOfP
 have mA := as_methodAssignableTo
 have a25 := as_assignableP
 have v25 := as_valueOfP
 have f6 := as_valueOfPP
 have f7 := as_typePP
 have mK := as_methodKind
 have mE := as_methodElem
 have mI := as_methodImplements
 have k27 := as_kindPP
 have k25 := as_kindP
 have e27 := as_elemPP
 have i25 := as_implementsP
 have n8 := as_isNilPP ⟨w.heap.size, 0, none⟩ t ((w.alloc (.cells #[.pointer (some t)] 121)).alloc (.cells #[.pointer (some ⟨5, 121, none⟩), .pointer (some ⟨w.heap.size, 0, none⟩), .int .u64 150] 184)) (by simp)
 have hlt : 0 < w.heap.size := World.block_lt_of_cell? w ⟨0, 0, none⟩ hg
 have hg2 : ((w.alloc (.cells #[.pointer (some t)] 121)).alloc (.cells #[.pointer (some ⟨5, 121, none⟩), .pointer (some ⟨w.heap.size, 0, none⟩), .int .u64 150] 184)).cell? ⟨0, 0, none⟩ = some (.iface 227 (.agg #[.pointer (some ⟨5, 26, none⟩)])) := by
  rw [World.cell?_alloc_lt _ _ ⟨0, 0, none⟩ (by simp <;> omega), World.cell?_alloc_lt _ _ ⟨0, 0, none⟩ hlt]; exact hg
 have htl : t.block < w.heap.size := by
  rcases Nat.lt_or_ge t.block w.heap.size with h | h
  · exact h
  · simp [World.cell?, Array.getElem?_eq_none h] at ht0
 have el := as_elemVPP ⟨w.heap.size, 0, none⟩ t (((w.alloc (.cells #[.pointer (some t)] 121)).alloc (.cells #[.pointer (some ⟨5, 121, none⟩), .pointer (some ⟨w.heap.size, 0, none⟩), .int .u64 150] 184)).alloc (.cells #[.pointer (some ⟨5, 121, none⟩), .pointer (some ⟨w.heap.size, 0, none⟩), .int .u64 150] 184)) (by rw [World.cell?_alloc_lt _ _ ⟨w.heap.size, 0, none⟩ (by simp; omega)]; simp)
 have st := as_setP t ⟨w.heap.size + 1 + 1 + 1, 0, none⟩ e old ((((w.alloc (.cells #[.pointer (some t)] 121)).alloc (.cells #[.pointer (some ⟨5, 121, none⟩), .pointer (some ⟨w.heap.size, 0, none⟩), .int .u64 150] 184)).alloc (.cells #[.pointer (some ⟨5, 121, none⟩), .pointer (some ⟨w.heap.size, 0, none⟩), .int .u64 150] 184)).alloc (.cells #[.pointer (some e)] 119))
  (by rw [World.cell?_alloc_at _ _ _ _ (by simp)]; rfl)
  (by rw [World.cell?_alloc_lt _ _ t (by simp; omega), World.cell?_alloc_lt _ _ t (by simp; omega), World.cell?_alloc_lt _ _ t (by simp; omega), World.cell?_alloc_lt _ _ t htl]; exact ht0)
  (by rw [World.frozen?_alloc_old _ _ t (by simp; omega), World.frozen?_alloc_old _ _ t (by simp; omega), World.frozen?_alloc_old _ _ t (by simp; omega), World.frozen?_alloc_old _ _ t (Nat.ne_of_lt htl)]; exact hf0)
 go_enter Tryz.func95, Tryz.ntmps95
 go_wp2
 refine wp_loop_rounds 1 ?_
 rw [rounds_succ]
 go_wp2
 go_ret
 exact ⟨rfl, rfl⟩
end
section
open Go.RowKit Go.Extern.Stop Go.Stop Go.Extern
def Glob (w : World) : Prop := w.cell? ⟨0, 0, none⟩ = some (.iface 227 (.agg #[.pointer (some ⟨5, 26, none⟩)]))
theorem Glob.size {w : World} (h : Glob w) : 0 < w.heap.size := World.block_lt_of_cell? w ⟨0, 0, none⟩ h
theorem Glob.ext {w w' : World} (h : Glob w) (hb : Below w.heap.size w w') : Glob w' := by
 unfold Glob; rw [bcell1 hb h.size]; exact h
theorem Glob.alloc {w : World} (h : Glob w) (o : Obj) : Glob (w.alloc o) := h.ext (ext_alloc (Below.refl _ _) o)
theorem as_box (e : Addr) (w : World) (hg : Glob w) :
    Calls Tryz.prog 95 #[.iface 119 (.pointer (some e)), .iface 121 (.pointer (some ⟨w.heap.size, 0, none⟩))] (w.alloc (.cells #[.pointer none] 119)) fun ev w' => ev = .returned (.bool true) ∧ w'.cell? ⟨w.heap.size, 0, none⟩ = some (.pointer (some e)) ∧ w.heap.size < w'.heap.size ∧ Below w.heap.size w w' := by
 refine (as_hit e ⟨w.heap.size, 0, none⟩ (.pointer none) _ (hg.alloc _) (by simp) (by simp)).mono ?_
 rintro ev w' ⟨rfl, rfl⟩
 refine ⟨rfl, World.cell?_setCell_same _ _ _ (u := .pointer none) (cell_alloc _ (cell_alloc _ (cell_alloc _ (cell_alloc _ (by simp))))), by simp; omega, ?_⟩
 exact (ext_alloc (ext_alloc (ext_alloc (ext_alloc (ext_alloc (Below.refl _ _) _) _) _) _) _).setCell (Nat.le_refl _) _
theorem Rd.fault {w : World} {k a : Int} {u : Value} {c : List (Int × Int)} (h : Rd (Own w) w u (errD 119 c)) :
    Rd (Own (w.alloc (.cells #[.int .i64 k, .int .i64 a, u] 123))) (w.alloc (.cells #[.int .i64 k, .int .i64 a, u] 123)) (.iface 119 (.pointer (some ⟨w.heap.size, 0, none⟩))) (errD 119 ((k, a) :: c)) := by
 have h' := h.ext (ext_alloc (Below.refl _ _) (.cells #[.int .i64 k, .int .i64 a, u] 123))
 simp only [errD]
 refine .iface _ _ _ (.ptr _ _ _ (fun j => (#[Value.int .i64 k, .int .i64 a, u][j]?).getD undef) (by show w.heap.size < _; simp) (fun j hj => ?_) (fun j hj => ?_))
 · have hj' : j = 0 ∨ j = 1 ∨ j = 2 := by simp at hj; omega
   rcases hj' with rfl | rfl | rfl <;> simp
 · have hj' : j = 0 ∨ j = 1 ∨ j = 2 := by simp at hj; omega
   rcases hj' with rfl | rfl | rfl
   · exact .int _ _
   · exact .int _ _
   · exact h'
theorem fail_any (k a : Int) (w : World) : Calls Tryz.prog 44 #[.int .i64 k, .int .i64 a] w fun e w' =>
    e = .returned (.iface 119 (.pointer (some ⟨w.heap.size, 0, none⟩))) ∧ w' = w.alloc (.cells #[.int .i64 k, .int .i64 a, .nilIface] 123) := by
 go_enter Tryz.func44, Tryz.ntmps44
 go_wp2
 go_ret
 exact ⟨rfl, rfl⟩
theorem wrap_any {S : Nat → Prop} (k a : Int) (u : Value) (c : List (Int × Int)) (w : World) (h : Rd S w u (errD 119 c)) : Calls Tryz.prog 87 #[.int .i64 k, .int .i64 a, u] w fun e w' =>
    e = .returned (.iface 119 (.pointer (some ⟨w.heap.size, 0, none⟩))) ∧ w' = w.alloc (.cells #[.int .i64 k, .int .i64 a, u] 123) := by
 cases c with
 | nil =>
   simp only [errD] at h
   have e := h.nilI_inv
   subst e
   clear h
   go_enter Tryz.func87, Tryz.ntmps87
   go_wp2
   go_ret
   exact ⟨rfl, rfl⟩
 | cons x r =>
   obtain ⟨k', a'⟩ := x
   obtain ⟨b, off, u, rfl, _⟩ := fault_inv h
   clear h
   go_enter Tryz.func87, Tryz.ntmps87
   go_wp2
   go_ret
   exact ⟨rfl, rfl⟩
theorem Rd.failedF (k a : Int) (w : World) : Rd (fun b => b = w.heap.size) (w.alloc (.cells #[.int .i64 k, .int .i64 a, .nilIface] 123)) (.iface 119 (.pointer (some ⟨w.heap.size, 0, none⟩))) (errD 119 [(k, a)]) := by
 simp only [errD]
 refine .iface _ _ _ (.ptr _ _ _ (fun j => (#[Value.int .i64 k, .int .i64 a, .nilIface][j]?).getD undef) rfl (fun j hj => ?_) (fun j hj => ?_))
 · have hj' : j = 0 ∨ j = 1 ∨ j = 2 := by simp at hj; omega
   rcases hj' with rfl | rfl | rfl <;> simp
 · have hj' : j = 0 ∨ j = 1 ∨ j = 2 := by simp at hj; omega
   rcases hj' with rfl | rfl | rfl
   · exact .int _ _
   · exact .int _ _
   · exact .nilI
end
section
open Go.ChangeShapes Go.WideShapes Go.RowKit
theorem errOwn : ownKnob Tryz.prog.godebug = none := by kernel_rfl
theorem errLaidOut : laidOutB Tryz.prog = true := by kernel_rfl
theorem errVar : Tryz.prog.globalNamed "errors.errorType" = some 0 := by kernel_rfl
theorem errRtype : (Tryz.prog.cutTypes.find? (·.1 == "internal/reflectlite.rtype")).map (·.2) = some 227 := by kernel_rfl
theorem errOneRow : ((List.range 332).filter fun t => Tryz.prog.rowNamed t [101, 114, 114, 111, 114]) = [26] := by kernel_rfl
theorem errSize : Tryz.prog.types.size = 332 := by kernel_rfl
theorem glob_of_laid {W : World} (h : laidMetH Tryz.prog [("errors.errorType", Rows.laid_errors_errorType)] W) : Glob W := by
 have h' : laidMet Tryz.prog [] W ∧ handlesMet Tryz.prog [("errors.errorType", Rows.laid_errors_errorType)] W := h
 obtain ⟨name, u, ty, e1, e2, e3, e4, e5⟩ := h'.2 _ (List.mem_singleton.2 rfl)
 have en : name = [101, 114, 114, 111, 114] := (Option.some.inj e1).symm
 subst en
 obtain rfl := Option.some.inj (errRtype.symm.trans e2)
 have hm : ty ∈ (List.range 332).filter fun t => Tryz.prog.rowNamed t [101, 114, 114, 111, 114] := List.mem_filter.2 ⟨List.mem_range.2 (by rw [← errSize]; exact e3), e4⟩
 rw [errOneRow] at hm
 obtain rfl := List.mem_singleton.1 hm
 have hh : typeHandle Tryz.prog 26 = .pointer (some ⟨5, 26, none⟩) := by kernel_rfl
 rw [hh] at e5
 unfold Glob
 simpa using World.var?_cell errVar e5 0
noncomputable def errWorld (os : Os) : World :=
 let w0 := World.holding Tryz.prog os ⟨#[], #[], []⟩
 { w0 with heap := w0.heap.modify 0 fun
     | .cells _ t frozen => .cells #[.iface 227 (.agg #[.pointer (some ⟨5, 26, none⟩)])] t frozen
     | o => o }
end
end Go.Proofs.YtbeodjipdpcaiaaGreatDoor
