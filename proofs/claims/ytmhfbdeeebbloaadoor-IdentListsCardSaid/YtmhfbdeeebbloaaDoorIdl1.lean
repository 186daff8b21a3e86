/- Fingerprints as rows of 32 bytes, in memory. -/
import Derived.Test.YtmhfbdeeebbloaaDoorIdp6
import Derived.Test.YtmhfbdeeebbloaaDoorIdl0
namespace Go.Proofs.YtmhfbdeeebbloaaDoor
open Go.RowKit
def Pr : Type := {l : List UInt8 // l.length = 32}
instance : DecidableEq Pr := inferInstanceAs (DecidableEq {l : List UInt8 // l.length = 32})
instance : Inhabited Pr := ⟨⟨List.replicate 32 0, by simp⟩⟩
def Pr.b (x : Pr) (i : Nat) : Nat := (x.1.getD i 0).toNat
theorem Pr.lt (x : Pr) (i : Nat) : x.b i < 256 := UInt8.toNat_lt _
def encP (x : Pr) : List Value := x.1.map fun c => .int .u8 ((c.toNat : Nat) : Int)
theorem encP_len (x : Pr) : (encP x).length = 32 := by simp [encP, x.2]
theorem encP_get (x : Pr) (i : Nat) (hi : i < 32) : (encP x)[i]? = some (.int .u8 (x.b i : Nat)) := by
  have h : i < x.1.length := by rw [x.2]; exact hi
  simp [encP, Pr.b, List.getElem?_eq_getElem h, List.getD]
theorem encP_one (x : Pr) : ∀ v ∈ encP x, v.oneCell' = true := by
  intro v hv
  obtain ⟨c, _, rfl⟩ := List.mem_map.1 hv
  rfl
/-- As an array. -/
def prV (x : Pr) : Array Value := prC x.b 32
theorem prV_enc (x : Pr) : (encP x).toArray = prV x := by
  apply Array.ext_getElem?
  intro i
  by_cases hi : i < 32
  · unfold prV
    rw [prC_get _ 32 i hi, if_pos hi]
    simpa using encP_get x i hi
  · rw [Array.getElem?_eq_none (by simp [encP_len]; omega), Array.getElem?_eq_none (by unfold prV; rw [prC_size]; omega)]
theorem prV_lit (x : Pr) : (#[.int .u8 (x.b 0 : Nat), .int .u8 (x.b 1 : Nat), .int .u8 (x.b 2 : Nat), .int .u8 (x.b 3 : Nat), .int .u8 (x.b 4 : Nat), .int .u8 (x.b 5 : Nat), .int .u8 (x.b 6 : Nat), .int .u8 (x.b 7 : Nat), .int .u8 (x.b 8 : Nat), .int .u8 (x.b 9 : Nat), .int .u8 (x.b 10 : Nat), .int .u8 (x.b 11 : Nat), .int .u8 (x.b 12 : Nat), .int .u8 (x.b 13 : Nat), .int .u8 (x.b 14 : Nat), .int .u8 (x.b 15 : Nat), .int .u8 (x.b 16 : Nat), .int .u8 (x.b 17 : Nat), .int .u8 (x.b 18 : Nat), .int .u8 (x.b 19 : Nat), .int .u8 (x.b 20 : Nat), .int .u8 (x.b 21 : Nat), .int .u8 (x.b 22 : Nat), .int .u8 (x.b 23 : Nat), .int .u8 (x.b 24 : Nat), .int .u8 (x.b 25 : Nat), .int .u8 (x.b 26 : Nat), .int .u8 (x.b 27 : Nat), .int .u8 (x.b 28 : Nat), .int .u8 (x.b 29 : Nat), .int .u8 (x.b 30 : Nat), .int .u8 (x.b 31 : Nat)] : Array Value) = prV x := by rfl
theorem Pr.ext {x y : Pr} (h : ∀ i, i < 32 → x.b i = y.b i) : x = y := by
  apply Subtype.ext
  apply List.ext_getElem (by rw [x.2, y.2])
  intro i h1 h2
  have := h i (by rw [x.2] at h1; exact h1)
  unfold Pr.b at this
  rw [List.getD, List.getD, List.getElem?_eq_getElem h1, List.getElem?_eq_getElem h2] at this
  exact UInt8.toNat_inj.1 this
theorem prEq_pr (x y : Pr) : prEq x.b y.b = decide (x = y) := by
  by_cases e : x = y
  · subst e; rw [decide_eq_true rfl]; exact prEq_refl _
  · rw [decide_eq_false e, Bool.eq_false_iff]
    intro h
    refine e (Pr.ext fun i hi => ?_)
    have := List.all_eq_true.1 h i (List.mem_range.2 hi)
    have := beq_iff_eq.1 this
    omega
theorem run_eqP (x y : Pr) (W : World) : (Op.equalIn 10000 23 (.agg (prV x)) (.agg (prV y))).run Tryd.prog W = .ok (decide (x = y)) W := by
  rw [← prEq_pr]; exact run_prEq _ _ W
/-- Rows in memory. -/
def RowP (w : World) (b off : Nat) (ps : List Pr) : Prop := ∀ (j : Nat) x, ps[j]? = some x → ∀ i, i < 32 → w.cell? ⟨b, off + j * 32 + i, none⟩ = some (.int .u8 (x.b i : Nat))
theorem RowP.below {w w' : World} {b off : Nat} {ps : List Pr} (h : RowP w b off ps) (hb : Below w.heap.size w w') (hz : b < w.heap.size) : RowP w' b off ps := fun j x hx i hi => (bcell1 hb hz _).trans (h j x hx i hi)
theorem pr_loadAt {w : World} {b o : Nat} {x : Pr} (h : ∀ i, i < 32 → w.cell? ⟨b, o + i, none⟩ = some (.int .u8 (x.b i : Nat))) : (loadVar 23 ⟨b, o, none⟩).run Tryd.prog w = .ok (.agg (prV x)) w := by
  have hl : (loadCells ⟨b, o, none⟩ (encP x).length).run Tryd.prog w = .ok (encP x).toArray w :=
    run_loadCells_list (P := Tryd.prog) w ⟨b, o, none⟩ (encP x) (fun j v hv => by
      have hj := (List.getElem?_eq_some_iff.1 hv).1
      rw [encP_len] at hj
      have hadd : (⟨b, o, none⟩ : Addr).add j = ⟨b, o + j, none⟩ := Addr.add_lit ..
      rw [encP_get x j hj] at hv
      rw [hadd, h j hj, hv])
  rw [encP_len, prV_enc] at hl
  have hagg : (isAgg 23).run Tryd.prog w = .ok true w := by
    unfold isAgg
    rw [Sem.run_bind, run_underlying Tryd.underlying23 w]
    simp
  cases hq : Tryd.prog.info? 23 with
  | none => have := prInfo; rw [hq] at this; cases this
  | some i =>
    have hs : i.size = 32 := by have := prInfo; rw [hq] at this; simpa using this
    simp [loadVar, Sem.run_bind, hagg, sizeOf, typeInfo, hq, hs, hl]
theorem pr_box {w : World} {b : Nat} {x : Pr} (h : w.heap[b]? = some (.cells (prV x) 23 (0, 0))) : (loadVar 23 ⟨b, 0, none⟩).run Tryd.prog w = .ok (.agg (prV x)) w := pr_load x.b 32 b w h
/-- A whole array loaded in a quiet walk. -/
theorem quiet_loadRow {P : Program} {C : World → Prop} {a : Act} {o : Oper} {K : Act → Prop} (t : TypeId) (p : Addr) (v : Value) (hl : ∀ w, C w → (loadVar t p).run P w = .ok v w) (x : Operand) (h : o.op = .load t x) (hx : a.eval x = .pointer (some p)) (hk : K (a.put o.dst v)) : o.quiet P a C K :=
  ⟨v, fun w hw => by
    unfold Oper.quietAt
    rw [show (execOp a.eval o).run P w = .ok (.value v) w from by simp [execOp, h, hx, Instr.loadAt, Instr.sureAddr, hl w hw, Result.andThen]]
    exact ⟨rfl, rfl⟩, hk⟩
theorem quiet_eqRow {P : Program} {C : World → Prop} {a : Act} {o : Oper} {K : Act → Prop} {t : TypeId} {ca cb : Array Value} {r : Bool} {yt : TypeId} (hg : P.eqGuardType P.depth t = false) (hq : ∀ w, (Op.equalIn 10000 t (.agg ca) (.agg cb)).run P w = .ok r w) (x y : Operand) (h : o.op = .binOp .eql t x y yt) (hx : a.eval x = .agg ca) (hy : a.eval y = .agg cb) (hk : K (a.put o.dst (.bool r))) : o.quiet P a C K :=
  ⟨.bool r, fun w hw => by
    unfold Oper.quietAt
    have hq' : (Op.equal t (.agg ca) (.agg cb)).run P w = .ok r w := hq w
    rw [show (execOp a.eval o).run P w = .ok (.value (.bool r)) w from by simp [execOp, h, hx, hy, eqGuard, binOp, hg, Sem.run_bind, hq', Result.andThen]]
    exact ⟨rfl, rfl⟩, hk⟩
theorem drewN_heap0 {B : Nat} {a b : World} (h : Below B a b) (n : Nat) : Below B a (b.drewN n) := ⟨h.os, h.tape, h.output, h.size, h.block⟩
def HsRel7 (ps : List Pr) (p : Pr) (W : World) (i : Value) (wr : World) : Prop := ∃ j nq : Nat, i = .int .i64 j ∧ j ≤ ps.length ∧ wr = W.drewN nq ∧ ∀ m y, m < j → ps[m]? = some y → y ≠ p
set_option maxRecDepth 100000 in
set_option maxHeartbeats 16000000 in
theorem rhasP_any (w : World) (a : Option Addr) (cap : Nat) (ps : List Pr) (p : Pr) (hr : 0 < ps.length → ∃ b off, a = some ⟨b, off, none⟩ ∧ b < w.heap.size ∧ RowP w b off ps) (hm : ps.length ≤ 1000000) :
    Calls Tryd.prog 15 #[.slice a ps.length cap, .agg (prV p)] w fun e w' => e = .returned (.bool (decide (p ∈ ps))) ∧ Below w.heap.size w w' := by
  obtain ⟨cp, hcp⟩ : ∃ cp, prV p = cp := ⟨_, rfl⟩
  obtain ⟨W1, hW1⟩ : ∃ W, w.alloc (.cells cp 23) = W := ⟨_, rfl⟩
  have hb1 : Below w.heap.size w W1 := by rw [← hW1]; exact ext_alloc (Below.refl _ _) _
  have hx1 : W1.heap[w.heap.size]? = some (.cells (prV p) 23 (0, 0)) := by rw [← hW1, ← hcp]; exact heap_alloc_new w _
  have HB1 := Lib.hid hb1; have HX1 := Lib.hid hx1; have HR := Lib.hid hr
  have HCP := Lib.hid hcp
  have EQ := Lib.hid (fun x W => run_eqP x p W)
  rw [hcp] at EQ ⊢
  clear hb1 hx1 hr hcp
  go_enter Tryd.func15, Tryd.ntmps15
  go_wp2_with fail
  clear hW1
  go_loopw [5] (HsRel7 ps p W1) (fun i _ => ps.length - (intOf i).toNat)
  case atStart => exact ⟨0, 0, rfl, Nat.zero_le _, rfl, fun m y h => by omega⟩
  case round =>
    obtain ⟨j, nq, rfl, hj, rfl, hno⟩ := hrel
    have HNO := Lib.hid hno
    clear hno
    have HB := Lib.hid (drewN_heap0 HB1.out nq)
    by_cases hlt : j < ps.length
    · have t1 : decide ((j : Int) < (ps.length : Int)) = true := decide_eq_true (by omega)
      have t1' : decide (j < ps.length) = true := decide_eq_true hlt
      have q1 : IntKind.i64.wrap ((j : Int) + 1) = (j : Int) + 1 := IntWalk.i64_in _ (by omega)
      obtain ⟨b, off, rfl, hbz, hrow⟩ := HR.out (by omega)
      obtain ⟨x, hx⟩ := get_ex ps j hlt
      have hl1 : ∀ w', (∃ n, w' = (W1.drewN nq).drewN n) → (loadVar 23 ⟨b, off + j * 32, none⟩).run Tryd.prog w' = .ok (.agg (prV x)) w' := fun w' h => by
        obtain ⟨n, rfl⟩ := h
        exact pr_loadAt (fun i hi => (hrow.below HB1.out hbz) j x hx i hi)
      have hl2 : ∀ w', (∃ n, w' = (W1.drewN nq).drewN n) → (loadVar 23 ⟨w.heap.size, 0, none⟩).run Tryd.prog w' = .ok (.agg cp) w' := fun w' h => by
        obtain ⟨n, rfl⟩ := h
        rw [← HCP.out]
        exact pr_box (w := (W1.drewN nq).drewN n) HX1.out
      obtain ⟨cx, hcx⟩ : ∃ cx, prV x = cx := ⟨_, rfl⟩
      have hgd : Tryd.prog.eqGuardType Tryd.prog.depth 23 = false := by kernel_rfl
      have EQW := fun W => EQ.out x W
      rw [hcx] at hl1
      simp only [hcx] at EQW
      have zb1 : b < W1.heap.size := Nat.lt_of_lt_of_le hbz HB1.out.size
      have HX := Lib.hid hx
      clear hrow hcx hx
      by_cases hxp : x = p
      · simp only [decide_eq_true hxp] at EQW
        have HM := Lib.hid (show decide (p ∈ ps) = true from decide_eq_true (by rw [← hxp]; exact List.mem_of_getElem? HX.out))
        clear hxp
        go_wp2
        refine wp_region_quiet_lit (by kernel_rfl) (by kernel_rfl) ?_
        repeat (first | (go_big_quiet_want; refine quiet_eqRow hgd EQW _ _ rfl rfl rfl ?_; go_big_quiet_on; simp only [Act.put, List.setIfInBounds_toArray, List.set_cons_zero, List.set_cons_succ]) | (go_big_quiet_want; refine quiet_loadRow 23 _ _ hl1 _ rfl rfl ?_; go_big_quiet_on; simp only [Act.put, List.setIfInBounds_toArray, List.set_cons_zero, List.set_cons_succ]) | (go_big_quiet_want; refine quiet_loadRow 23 _ _ hl2 _ rfl rfl ?_; go_big_quiet_on; simp only [Act.put, List.setIfInBounds_toArray, List.set_cons_zero, List.set_cons_succ]) | go_big_quiet_step (fail))
        refine wpQuiet_nil ?_
        intro _ hw'
        obtain ⟨nq2, hw2⟩ := hw'
        subst hw2
        go_wp2
        go_ret
        exact ⟨by rw [HM.out]; rfl, by first | exact HB.out | exact drewN_heap0 HB1.out _ | exact drewN_heap0 (drewN_heap0 HB1.out _) _⟩
      · simp only [decide_eq_false hxp] at EQW
        have HXP := Lib.hid hxp
        clear hxp
        go_wp2
        refine wp_region_quiet_lit (by kernel_rfl) (by kernel_rfl) ?_
        repeat (first | (go_big_quiet_want; refine quiet_eqRow hgd EQW _ _ rfl rfl rfl ?_; go_big_quiet_on; simp only [Act.put, List.setIfInBounds_toArray, List.set_cons_zero, List.set_cons_succ]) | (go_big_quiet_want; refine quiet_loadRow 23 _ _ hl1 _ rfl rfl ?_; go_big_quiet_on; simp only [Act.put, List.setIfInBounds_toArray, List.set_cons_zero, List.set_cons_succ]) | (go_big_quiet_want; refine quiet_loadRow 23 _ _ hl2 _ rfl rfl ?_; go_big_quiet_on; simp only [Act.put, List.setIfInBounds_toArray, List.set_cons_zero, List.set_cons_succ]) | go_big_quiet_step (fail))
        refine wpQuiet_nil ?_
        intro _ hw'
        obtain ⟨nq2, hw2⟩ := hw'
        subst hw2
        go_wp2
        refine ⟨?_, by simp [intOf]; omega⟩
        have R : ∀ k, HsRel7 ps p W1 (.int .i64 ((j : Int) + 1)) (W1.drewN k) := fun k => ⟨j + 1, k, by go_num, hlt, rfl, fun m y hm hy => by
          by_cases e : m = j
          · subst e; rw [HX.out] at hy; cases hy; exact HXP.out
          · exact HNO.out m y (by omega) hy⟩
        first | exact R _ | ((repeat apply Exists.intro); exact ⟨R _, rfl⟩)
    · have t1 : decide ((j : Int) < (ps.length : Int)) = false := decide_eq_false (by omega)
      have t1' : decide (j < ps.length) = false := decide_eq_false hlt
      have HM := Lib.hid (show decide (p ∈ ps) = false from decide_eq_false (fun hm => by
        obtain ⟨m, hml, he⟩ := List.mem_iff_getElem.1 hm
        exact HNO.out m p (by omega) (by rw [List.getElem?_eq_getElem hml, he]) rfl))
      go_wp2
      go_ret
      exact ⟨by rw [HM.out]; rfl, HB.out⟩
end Go.Proofs.YtmhfbdeeebbloaaDoor
