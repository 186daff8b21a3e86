/- errors.Is over chains of faults, by its contract. -/
import Derived.Test.YtmhfbdeeebbloaaDoorLib0
import Derived.Test.YtmhfbdeeebbloaaDoorProg
import Derived.LaidEql
import Derived.Stop.Asserts
import Derived.RowKitTokens
namespace Go.Proofs.YtmhfbdeeebbloaaDoor
open Go.RowKit Go.Extern.Stop Go.Stop Go.Extern

/-! ### What the tables tell of the types -/
theorem er_typeOf (v : Value) (w : World) : (ReflectliteType.typeOf #[.iface 63 v]).run Tryd.prog w = .ok (.iface 193 (.agg #[.pointer (some ⟨5, 63, none⟩)])) w := by kernel_rfl
theorem er_comparable (w : World) : (ReflectliteType.method (fun t => do Rtype.noPackHeld "Comparable" t; (fun a => Value.bool a.comparable) <$> typeInfo t) #[.agg #[.pointer (some ⟨5, 63, none⟩)]]).run Tryd.prog w = .ok (.bool true) w := by kernel_rfl
theorem er_method (v : Value) (w : World) : (Go.method 350 193 v "Comparable").run Tryd.prog w = .ok (177, v) w := by kernel_rfl
theorem er_hasIs (v : Value) (xT : TypeId) (w : World) : (Instr.typeAssert (.iface 119 v) xT 205 true).run Tryd.prog w = .ok (.tuple #[.iface 119 v, .bool true]) w := run_typeAssert_hasB Tryd.underlying205 (by kernel_rfl) v xT w
theorem er_hasUnwrap (v : Value) (xT : TypeId) (w : World) : (Instr.typeAssert (.iface 119 v) xT 200 true).run Tryd.prog w = .ok (.tuple #[.iface 119 v, .bool true]) w := run_typeAssert_hasB Tryd.underlying200 (by kernel_rfl) v xT w
theorem er_methodIs (v : Value) (w : World) : (Go.method 350 119 v "Is").run Tryd.prog w = .ok (170, v) w := by kernel_rfl
theorem er_methodUnwrap (v : Value) (w : World) : (Go.method 350 119 v "Unwrap").run Tryd.prog w = .ok (171, v) w := by kernel_rfl

theorem er_assertErrno (t : Int) (w : World) : (Instr.typeAssert (.iface 63 (.int .i64 t)) 28 63 true).run Tryd.prog w = .ok (.tuple #[.int .i64 t, .bool true]) w := by kernel_rfl
set_option maxRecDepth 100000 in
theorem faultIs_any (b off : Nat) (k t : Int) (w : World) (hc : w.cell? ⟨b, off, none⟩ = some (.int .i64 k)) :
    Calls Tryd.prog 170 #[.pointer (some ⟨b, off, none⟩), .iface 63 (.int .i64 t)] w fun e w' => e = .returned (.bool (t == k)) ∧ w = w' := by
  have hA := er_assertErrno t
  go_enter Tryd.func170, Tryd.ntmps170
  go_wp2
  go_ret
  exact ⟨rfl, rfl⟩
theorem faultUnwrap_any (b off : Nat) (u : Value) (w : World) (hc : w.cell? ⟨b, off + 2, none⟩ = some u) :
    Calls Tryd.prog 171 #[.pointer (some ⟨b, off, none⟩)] w fun e w' => e = .returned u ∧ w = w' := by
  go_enter Tryd.func171, Tryd.ntmps171
  go_wp2
  go_ret
  exact ⟨rfl, rfl⟩
/-- Which chain an interface value reads as. -/
theorem errD_inj {T : TypeId} {S S' : Nat → Prop} {w : World} : ∀ (c c' : List (Int × Int)) (v : Value), Rd S w v (errD T c) → Rd S' w v (errD T c') → c = c'
  | [], [], _, _, _ => rfl
  | [], (k, a) :: r, v, h, h' => by simp only [errD] at h h'; have := h.nilI_inv; subst this; cases h'
  | (k, a) :: r, [], v, h, h' => by simp only [errD] at h h'; have := h'.nilI_inv; subst this; cases h
  | (k, a) :: r, (k', a') :: r', v, h, h' => by
    simp only [errD] at h h'
    obtain ⟨u, rfl, g⟩ := h.iface_inv
    obtain ⟨u', e, g'⟩ := h'.iface_inv
    cases e
    obtain ⟨b, off, rfl, _, hc⟩ := g.ptr_inv
    obtain ⟨b', off', e, _, hc'⟩ := g'.ptr_inv
    cases e
    obtain ⟨x0, e0, r0⟩ := hc 0 (by simp)
    obtain ⟨x1, e1, r1⟩ := hc 1 (by simp)
    obtain ⟨x2, e2, r2⟩ := hc 2 (by simp)
    obtain ⟨y0, f0, s0⟩ := hc' 0 (by simp)
    obtain ⟨y1, f1, s1⟩ := hc' 1 (by simp)
    obtain ⟨y2, f2, s2⟩ := hc' 2 (by simp)
    rw [e0] at f0; rw [e1] at f1; rw [e2] at f2
    cases f0; cases f1; cases f2
    have a0 := r0.int_inv; have b0 := s0.int_inv
    have a1 := r1.int_inv; have b1 := s1.int_inv
    rw [a0] at b0; rw [a1] at b1
    cases b0; cases b1
    rw [errD_inj r r' x2 r2 s2]
noncomputable def chainLen (T : TypeId) (w : World) (v : Value) : Nat := by
  classical exact if h : ∃ c : List (Int × Int), Rd (fun _ => True) w v (errD T c) then h.choose.length else 0
theorem chainLen_eq {T : TypeId} {S : Nat → Prop} {w : World} {v : Value} {c : List (Int × Int)} (h : Rd S w v (errD T c)) : chainLen T w v = c.length := by
  have hx : ∃ c : List (Int × Int), Rd (fun _ => True) w v (errD T c) := ⟨c, h.wide (fun _ _ => trivial)⟩
  unfold chainLen
  rw [dif_pos hx, errD_inj _ _ v hx.choose_spec h]
/-- A fault, from the chain that it heads. -/
theorem fault_inv {T : TypeId} {S : Nat → Prop} {w : World} {v : Value} {k a : Int} {r : List (Int × Int)} (h : Rd S w v (errD T ((k, a) :: r))) :
    ∃ b off u, v = .iface T (.pointer (some ⟨b, off, none⟩)) ∧ S b ∧ w.cell? ⟨b, off, none⟩ = some (.int .i64 k) ∧ w.cell? ⟨b, off + 1, none⟩ = some (.int .i64 a) ∧ w.cell? ⟨b, off + 2, none⟩ = some u ∧ Rd S w u (errD T r) := by
  simp only [errD] at h
  obtain ⟨p, rfl, g⟩ := h.iface_inv
  obtain ⟨b, off, rfl, hS, hc⟩ := g.ptr_inv
  obtain ⟨x0, e0, r0⟩ := hc 0 (by simp)
  obtain ⟨x1, e1, r1⟩ := hc 1 (by simp)
  obtain ⟨x2, e2, r2⟩ := hc 2 (by simp)
  have a0 := r0.int_inv
  have a1 := r1.int_inv
  subst a0 a1
  exact ⟨b, off, x2, rfl, hS, e0, e1, e2, r2⟩
def IsRel (T : TypeId) (S : Nat → Prop) (w : World) (t : Int) (res : Bool) (v : Value) (wr : World) : Prop := wr = w ∧ ∃ c : List (Int × Int), c ≠ [] ∧ Rd S w v (errD T c) ∧ c.any (fun x => t == x.1) = res
abbrev isKind (c : List (Int × Int)) (t : Int) : Bool := c.any fun x => t == x.1
set_option maxHeartbeats 4000000 in
set_option maxRecDepth 100000 in
theorem is_loop {S : Nat → Prop} (v : Value) (t k a : Int) (r : List (Int × Int)) (w : World) (h : Rd S w v (errD 119 ((k, a) :: r))) :
    Calls Tryd.prog 107 #[v, .iface 63 (.int .i64 t), .bool true] w fun e w' => e = .returned (.bool (isKind ((k, a) :: r) t)) ∧ w = w' := by
  obtain ⟨b, off, u, rfl, hS, c0, c1, c2, hr⟩ := fault_inv h
  have H := Lib.hid h
  clear hS c0 c1 c2 hr h
  go_enter Tryd.func107, Tryd.ntmps107
  go_wp2_with fail
  go_loopw [0] (IsRel 119 S w t (isKind ((k, a) :: r) t)) (fun v _ => chainLen 119 w v)
  case atStart => exact ⟨rfl, _, by simp, H.out, rfl⟩
  case round =>
    obtain ⟨rfl, cc, hne, hv, hres⟩ := hrel
    cases cc with
    | nil => exact absurd rfl hne
    | cons x rr =>
    obtain ⟨k', a'⟩ := x
    have hml := chainLen_eq hv
    obtain ⟨b', off', u', rfl, _, c0, _, c2, hr⟩ := fault_inv hv
    rw [List.any_cons] at hres
    have heq := run_eql_iface_types (P := Tryd.prog) 119 63 (.pointer (some ⟨b', off', none⟩)) (.int .i64 t) Tryd.underlying28 (by decide) wr
    have nI := er_hasIs
    have nU := er_hasUnwrap
    have mI := er_methodIs
    have mU := er_methodUnwrap
    have HRES := Lib.hid hres; have HR := Lib.hid hr; have HML := Lib.hid hml; have HC2 := Lib.hid c2
    clear hres hr hv hne hml c2
    go_wp2_with fail
    refine (faultIs_any b' off' k' t _ c0).mono ?_
    rintro e w1 ⟨rfl, rfl⟩
    cases hk : (t == k') with
    | true =>
      have hres := HRES.out
      rw [hk] at hres
      go_wp2
      go_ret
      exact ⟨by rw [← hres]; rfl, rfl⟩
    | false =>
      go_wp2_with fail
      refine (faultUnwrap_any b' off' u' _ HC2.out).mono ?_
      rintro e w1 ⟨rfl, rfl⟩
      have hres := HRES.out
      rw [hk, Bool.false_or] at hres
      cases rr with
      | nil =>
        have := HR.out
        simp only [errD] at this
        have e := this.nilI_inv
        subst e
        have HRS := Lib.hid hres
        clear hres this
        go_wp2
        go_ret
        exact ⟨by rw [← HRS.out]; rfl, rfl⟩
      | cons y rr =>
        obtain ⟨k2, a2⟩ := y
        obtain ⟨b2, off2, u2, rfl, _⟩ := fault_inv HR.out
        have R : IsRel 119 S wr t (isKind ((k, a) :: r) t) (.iface 119 (.pointer (some ⟨b2, off2, none⟩))) wr := ⟨rfl, _, by simp, HR.out, hres⟩
        have M : chainLen 119 wr (.iface 119 (.pointer (some ⟨b2, off2, none⟩))) < chainLen 119 wr (.iface 119 (.pointer (some ⟨b', off', none⟩))) := by
          rw [chainLen_eq HR.out, HML.out]; simp
        have HRR := Lib.hid R; have HM := Lib.hid M
        clear R M hres
        go_wp2
        refine ⟨?_, HM.out⟩
        have R := HRR.out
        first | exact R | ((repeat apply Exists.intro); exact ⟨R, rfl⟩)
set_option maxHeartbeats 4000000 in
set_option maxRecDepth 100000 in
/-- errors.Is of a chain of faults and a kind. -/
theorem is_any {S : Nat → Prop} (v : Value) (t : Int) (c : List (Int × Int)) (w : World) (h : Rd S w v (errD 119 c)) :
    Calls Tryd.prog 66 #[v, .iface 63 (.int .i64 t)] w fun e w' => e = .returned (.bool (isKind c t)) ∧ w = w' := by
  cases c with
  | nil =>
    simp only [errD] at h
    have e := h.nilI_inv
    subst e
    have hn := run_eql_iface_nil_left (P := Tryd.prog) w 63 (.int .i64 t) Tryd.underlying28
    clear h
    go_enter Tryd.func66, Tryd.ntmps66
    go_wp2
    go_ret
    exact ⟨rfl, rfl⟩
  | cons x r =>
    obtain ⟨k, a⟩ := x
    have h8 := @run_callFunc_extern Tryd.prog 106 _ ReflectliteType.typeOf Tryd.func106 (by kernel_rfl) (by kernel_rfl) (by kernel_rfl) (by kernel_rfl)
    have h32 := @run_callFunc_extern Tryd.prog 177 _ (ReflectliteType.method fun t => do Rtype.noPackHeld "Comparable" t; pure (.bool (← typeInfo t).comparable)) Tryd.func177 (by kernel_rfl) (by kernel_rfl) (by kernel_rfl) (by kernel_rfl)
    have tT := er_typeOf
    have cT := er_comparable
    have mR := er_method
    have L := Lib.hid (is_loop v t k a r w h)
    obtain ⟨b, off, u, rfl, _⟩ := fault_inv h
    clear h
    go_enter Tryd.func66, Tryd.ntmps66
    go_wp2_with fail
    refine L.out.mono ?_
    rintro e w1 ⟨rfl, rfl⟩
    go_wp2
    go_ret
    exact ⟨rfl, rfl⟩
end Go.Proofs.YtmhfbdeeebbloaaDoor
