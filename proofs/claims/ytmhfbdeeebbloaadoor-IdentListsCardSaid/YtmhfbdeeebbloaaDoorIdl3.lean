/- slices.Index, slices.Contains, ident.Has. -/
import Derived.Test.YtmhfbdeeebbloaaDoorIdl1
namespace Go.Proofs.YtmhfbdeeebbloaaDoor
open Go.RowKit
set_option maxRecDepth 100000 in
set_option maxHeartbeats 16000000 in
theorem index_any (w : World) (a : Option Addr) (cap : Nat) (ps : List Pr) (p : Pr) (hr : 0 < ps.length → ∃ b off, a = some ⟨b, off, none⟩ ∧ b < w.heap.size ∧ RowP w b off ps) (hm : ps.length ≤ 1000000) :
    Calls Tryd.prog 78 #[.slice a ps.length cap, .agg (prV p)] w fun e w' => (∃ j : Int, e = .returned (.int .i64 j) ∧ decide (j ≥ 0) = decide (p ∈ ps)) ∧ Below w.heap.size w w' := by
  obtain ⟨cp, hcp⟩ : ∃ cp, prV p = cp := ⟨_, rfl⟩
  obtain ⟨W1, hW1⟩ : ∃ W, w.alloc (.cells cp 23) = W := ⟨_, rfl⟩
  have hb1 : Below w.heap.size w W1 := by rw [← hW1]; exact ext_alloc (Below.refl _ _) _
  have hx1 : W1.heap[w.heap.size]? = some (.cells (prV p) 23 (0, 0)) := by rw [← hW1, ← hcp]; exact heap_alloc_new w _
  have HB1 := Lib.hid hb1; have HX1 := Lib.hid hx1; have HR := Lib.hid hr
  have HCP := Lib.hid hcp
  have EQ := Lib.hid (fun x W => run_eqP p x W)
  rw [hcp] at EQ ⊢
  clear hb1 hx1 hr hcp
  go_enter Tryd.func78, Tryd.ntmps78
  go_wp2_with fail
  clear hW1
  go_loopw [8] (HsRel7 ps p W1) (fun i _ => ps.length - (intOf i).toNat)
  case atStart => exact ⟨0, 0, rfl, Nat.zero_le _, rfl, fun m y h => by omega⟩
  case round =>
    obtain ⟨j, nq, rfl, hj, rfl, hno⟩ := hrel
    have HNO := Lib.hid hno
    clear hno
    have HB := Lib.hid (drewN_heap0 HB1.out nq)
    by_cases hlt : j < ps.length
    · have t1 : decide ((j : Int) < (ps.length : Int)) = true := decide_eq_true (by omega)
      have t1' : decide (j < ps.length) = true := decide_eq_true hlt
      have q1 : IntKind.i64.wrap ((j : Int) + 1) = (j : Int) + 1 := IntWalk.i64_in _ (by omega)
      obtain ⟨b, off, rfl, hbz, hrow⟩ := HR.out (by omega)
      obtain ⟨x, hx⟩ := get_ex ps j hlt
      have hl1 : ∀ w', (∃ n, w' = (W1.drewN nq).drewN n) → (loadVar 23 ⟨b, off + j * 32, none⟩).run Tryd.prog w' = .ok (.agg (prV x)) w' := fun w' h => by
        obtain ⟨n, rfl⟩ := h
        exact pr_loadAt (fun i hi => (hrow.below HB1.out hbz) j x hx i hi)
      have hl2 : ∀ w', (∃ n, w' = (W1.drewN nq).drewN n) → (loadVar 23 ⟨w.heap.size, 0, none⟩).run Tryd.prog w' = .ok (.agg cp) w' := fun w' h => by
        obtain ⟨n, rfl⟩ := h
        rw [← HCP.out]
        exact pr_box (w := (W1.drewN nq).drewN n) HX1.out
      obtain ⟨cx, hcx⟩ : ∃ cx, prV x = cx := ⟨_, rfl⟩
      have hgd : Tryd.prog.eqGuardType Tryd.prog.depth 23 = false := by kernel_rfl
      have EQW := fun W => EQ.out x W
      rw [hcx] at hl1
      simp only [hcx] at EQW
      have zb1 : b < W1.heap.size := Nat.lt_of_lt_of_le hbz HB1.out.size
      have HX := Lib.hid hx
      clear hrow hcx hx
      by_cases hxp : p = x
      · simp only [decide_eq_true hxp] at EQW
        have HM := Lib.hid (show decide (p ∈ ps) = true from decide_eq_true (by rw [hxp]; exact List.mem_of_getElem? HX.out))
        clear hxp
        go_wp2
        refine wp_region_quiet_lit (by kernel_rfl) (by kernel_rfl) ?_
        repeat (first | (go_big_quiet_want; refine quiet_eqRow hgd EQW _ _ rfl rfl rfl ?_; go_big_quiet_on; simp only [Act.put, List.setIfInBounds_toArray, List.set_cons_zero, List.set_cons_succ]) | (go_big_quiet_want; refine quiet_loadRow 23 _ _ hl1 _ rfl rfl ?_; go_big_quiet_on; simp only [Act.put, List.setIfInBounds_toArray, List.set_cons_zero, List.set_cons_succ]) | (go_big_quiet_want; refine quiet_loadRow 23 _ _ hl2 _ rfl rfl ?_; go_big_quiet_on; simp only [Act.put, List.setIfInBounds_toArray, List.set_cons_zero, List.set_cons_succ]) | go_big_quiet_step (fail))
        refine wpQuiet_nil ?_
        intro _ hw'
        obtain ⟨nq2, hw2⟩ := hw'
        subst hw2
        go_wp2
        go_ret
        exact ⟨⟨_, rfl, by rw [HM.out]; exact decide_eq_true (by omega)⟩, by first | exact HB.out | exact drewN_heap0 HB1.out _ | exact drewN_heap0 (drewN_heap0 HB1.out _) _⟩
      · simp only [decide_eq_false hxp] at EQW
        have HXP := Lib.hid hxp
        clear hxp
        go_wp2
        refine wp_region_quiet_lit (by kernel_rfl) (by kernel_rfl) ?_
        repeat (first | (go_big_quiet_want; refine quiet_eqRow hgd EQW _ _ rfl rfl rfl ?_; go_big_quiet_on; simp only [Act.put, List.setIfInBounds_toArray, List.set_cons_zero, List.set_cons_succ]) | (go_big_quiet_want; refine quiet_loadRow 23 _ _ hl1 _ rfl rfl ?_; go_big_quiet_on; simp only [Act.put, List.setIfInBounds_toArray, List.set_cons_zero, List.set_cons_succ]) | (go_big_quiet_want; refine quiet_loadRow 23 _ _ hl2 _ rfl rfl ?_; go_big_quiet_on; simp only [Act.put, List.setIfInBounds_toArray, List.set_cons_zero, List.set_cons_succ]) | go_big_quiet_step (fail))
        refine wpQuiet_nil ?_
        intro _ hw'
        obtain ⟨nq2, hw2⟩ := hw'
        subst hw2
        go_wp2
        refine ⟨?_, by simp [intOf]; omega⟩
        have R : ∀ k, HsRel7 ps p W1 (.int .i64 ((j : Int) + 1)) (W1.drewN k) := fun k => ⟨j + 1, k, by go_num, hlt, rfl, fun m y hm hy => by
          by_cases e : m = j
          · subst e; rw [HX.out] at hy; cases hy; exact fun h => HXP.out h.symm
          · exact HNO.out m y (by omega) hy⟩
        first | exact R _ | ((repeat apply Exists.intro); exact ⟨R _, rfl⟩)
    · have t1 : decide ((j : Int) < (ps.length : Int)) = false := decide_eq_false (by omega)
      have t1' : decide (j < ps.length) = false := decide_eq_false hlt
      have HM := Lib.hid (show decide (p ∈ ps) = false from decide_eq_false (fun hm => by
        obtain ⟨m, hml, he⟩ := List.mem_iff_getElem.1 hm
        exact HNO.out m p (by omega) (by rw [List.getElem?_eq_getElem hml, he]) rfl))
      go_wp2
      go_ret
      exact ⟨⟨_, rfl, by rw [HM.out]; rfl⟩, HB.out⟩
set_option maxRecDepth 100000 in
set_option maxHeartbeats 16000000 in
theorem contains_any (w : World) (a : Option Addr) (cap : Nat) (ps : List Pr) (p : Pr) (hr : 0 < ps.length → ∃ b off, a = some ⟨b, off, none⟩ ∧ b < w.heap.size ∧ RowP w b off ps) (hm : ps.length ≤ 1000000) :
    Calls Tryd.prog 46 #[.slice a ps.length cap, .agg (prV p)] w fun e w' => e = .returned (.bool (decide (p ∈ ps))) ∧ Below w.heap.size w w' := by
  obtain ⟨cp, hcp⟩ : ∃ cp, prV p = cp := ⟨_, rfl⟩
  obtain ⟨W1, hW1⟩ : ∃ W, w.alloc (.cells cp 23) = W := ⟨_, rfl⟩
  have hb1 : Below w.heap.size w W1 := by rw [← hW1]; exact ext_alloc (Below.refl _ _) _
  have hx1 : W1.heap[w.heap.size]? = some (.cells (prV p) 23 (0, 0)) := by rw [← hW1, ← hcp]; exact heap_alloc_new w _
  have lp : (loadVar 23 ⟨w.heap.size, 0, none⟩).run Tryd.prog W1 = .ok (.agg cp) W1 := by rw [← hcp]; exact pr_box hx1
  have K := Lib.hid (index_any W1 a cap ps p (fun h => by
    obtain ⟨b, off, ha, hbz, hrow⟩ := hr h
    exact ⟨b, off, ha, Nat.lt_of_lt_of_le hbz hb1.size, hrow.below hb1 hbz⟩) hm)
  have HB1 := Lib.hid hb1
  rw [hcp] at K ⊢
  clear hb1 hx1 hr hcp hm
  obtain ⟨t, ht⟩ : ∃ t, decide (p ∈ ps) = t := ⟨_, rfl⟩
  rw [ht] at K ⊢
  clear ht
  go_enter Tryd.func46, Tryd.ntmps46
  go_wp2_with ((with_reducible show wpList _ _ _ (_ :: _) _ _); refine wpList_loadRowG 23 w.heap.size (.agg cp) lp _ rfl rfl rfl ?_)
  go_at_call 78
  refine K.out.mono ?_
  rintro _ w2 ⟨⟨j, rfl, hj⟩, h2⟩
  have HB2 := Lib.hid (HB1.out.trans (h2.mono HB1.out.size))
  clear h2
  go_wp2
  go_ret
  exact ⟨by rw [← hj]; rfl, HB2.out⟩
set_option maxRecDepth 100000 in
set_option maxHeartbeats 16000000 in
theorem hasP_any (w : World) (a : Option Addr) (cap : Nat) (ps : List Pr) (p : Pr) (hr : 0 < ps.length → ∃ b off, a = some ⟨b, off, none⟩ ∧ b < w.heap.size ∧ RowP w b off ps) (hm : ps.length ≤ 1000000) :
    Calls Tryd.prog 14 #[.slice a ps.length cap, .agg (prV p)] w fun e w' => e = .returned (.bool (decide (p ∈ ps))) ∧ Below w.heap.size w w' := by
  obtain ⟨cp, hcp⟩ : ∃ cp, prV p = cp := ⟨_, rfl⟩
  obtain ⟨W1, hW1⟩ : ∃ W, w.alloc (.cells cp 23) = W := ⟨_, rfl⟩
  have hb1 : Below w.heap.size w W1 := by rw [← hW1]; exact ext_alloc (Below.refl _ _) _
  have hx1 : W1.heap[w.heap.size]? = some (.cells (prV p) 23 (0, 0)) := by rw [← hW1, ← hcp]; exact heap_alloc_new w _
  have lp : (loadVar 23 ⟨w.heap.size, 0, none⟩).run Tryd.prog W1 = .ok (.agg cp) W1 := by rw [← hcp]; exact pr_box hx1
  have K := Lib.hid (contains_any W1 a cap ps p (fun h => by
    obtain ⟨b, off, ha, hbz, hrow⟩ := hr h
    exact ⟨b, off, ha, Nat.lt_of_lt_of_le hbz hb1.size, hrow.below hb1 hbz⟩) hm)
  have HB1 := Lib.hid hb1
  rw [hcp] at K ⊢
  clear hb1 hx1 hr hcp hm
  obtain ⟨t, ht⟩ : ∃ t, decide (p ∈ ps) = t := ⟨_, rfl⟩
  rw [ht] at K ⊢
  clear ht
  go_enter Tryd.func14, Tryd.ntmps14
  go_wp2_with ((with_reducible show wpList _ _ _ (_ :: _) _ _); refine wpList_loadRowG 23 w.heap.size (.agg cp) lp _ rfl rfl rfl ?_)
  go_at_call 46
  refine K.out.mono ?_
  rintro _ w2 ⟨rfl, h2⟩
  have HB2 := Lib.hid (HB1.out.trans (h2.mono HB1.out.size))
  clear h2
  go_wp2
  go_ret
  exact ⟨rfl, HB2.out⟩
end Go.Proofs.YtmhfbdeeebbloaaDoor
