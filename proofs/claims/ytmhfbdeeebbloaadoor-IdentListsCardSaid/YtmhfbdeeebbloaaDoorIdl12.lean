/- IdentLists: the walk. -/
import Derived.Test.YtmhfbdeeebbloaaDoorIdl11
import Derived.Test.YtmhfbdeeebbloaaDoorIdl3
import Derived.Test.YtmhfbdeeebbloaaDoorIdp6
namespace Go.Proofs.YtmhfbdeeebbloaaDoor
open Go.RowKit
def IlRel (n : Nat) (W : World) (vi : Value) (wr : World) : Prop := ∃ j nq : Nat, vi = .int .i64 j ∧ j ≤ n ∧ wr = W.drewN nq
theorem refL_mem (ps : List Pr) (p : Pr) : p ∈ refL ltP ps ↔ p ∈ ps := by
  have := (refL_facts ltP_strict ps [] (by simp)).2 p
  simpa [refL] using this
theorem refL_len (ps : List Pr) : (refL ltP ps).length ≤ ps.length := by
  have := outN_len ps ps.length
  unfold outN at this
  rwa [List.take_of_length_le (Nat.le_refl _)] at this
set_option maxRecDepth 100000 in
set_option maxHeartbeats 16000000 in
theorem identLists_any (w : World) (hg : Glob w) (a : Option Addr) (cap : Nat) (ps : List Pr) (p : Pr) (hr : 0 < ps.length → ∃ b off, a = some ⟨b, off, none⟩ ∧ b < w.heap.size ∧ RowP w b off ps) (ha : a = none → ps.length = 0 ∧ cap = 0) :
    Calls Tryd.prog 4 #[.slice a ps.length cap, .agg (prV p)] w fun e w' => e = .returned (.bool true) ∧ Below w.heap.size w w' := by
  obtain ⟨cp, hcp⟩ : ∃ cp, prV p = cp := ⟨_, rfl⟩
  obtain ⟨W1, hW1⟩ : ∃ W, w.alloc (.cells cp 23) = W := ⟨_, rfl⟩
  have hb1 : Below w.heap.size w W1 := by rw [← hW1]; exact ext_alloc (Below.refl _ _) _
  have hx1 : W1.heap[w.heap.size]? = some (.cells (prV p) 23 (0, 0)) := by rw [← hW1, ← hcp]; exact heap_alloc_new w _
  have SP := Lib.hid (speaks04 W1 (hg.ext hb1))
  have HCP := Lib.hid hcp; have HB1 := Lib.hid hb1; have HX1 := Lib.hid hx1; have HR := Lib.hid hr; have HA := Lib.hid ha
  rw [hcp]
  clear hcp hg hb1 hx1 hr ha
  have hz1 : w.heap.size < W1.heap.size := lt_heap HX1.out
  by_cases hbig : ps.length > 100
  · have t0 : decide ((ps.length : Int) > 100) = true := decide_eq_true (by omega)
    have t0' : decide ((100 : Int) < (ps.length : Int)) = true := decide_eq_true (by omega)
    have t0'' : decide (100 < ps.length) = true := decide_eq_true hbig
    clear hbig
    go_enter Tryd.func4, Tryd.ntmps4
    go_wp2_with fail
    clear hW1
    refine SP.out.mono ?_
    rintro e w2 ⟨rfl, hb2⟩
    have HB2 := Lib.hid (ext_trans HB1.out hb2)
    clear hb2
    go_wp2
    go_ret
    exact ⟨rfl, HB2.out⟩
  · have t0 : decide ((ps.length : Int) > 100) = false := decide_eq_false (by omega)
    have t0' : decide ((100 : Int) < (ps.length : Int)) = false := decide_eq_false (by omega)
    have t0'' : decide (100 < ps.length) = false := decide_eq_false hbig
    have hgd : Tryd.prog.eqGuardType Tryd.prog.depth 23 = false := by kernel_rfl
    have HMEM := Lib.hid (refL_mem ps p)
    have HRL := Lib.hid (refL_len ps)
    have PRI := Lib.hid (fun W b (h : RowP W b 0 ps) (hb : b < W.heap.size) c => prints_any W b 0 c ps h hb (by omega))
    have PRR := Lib.hid (fun W hr => rprints_any W a cap ps hr (by omega))
    generalize refL ltP ps = R at *
    go_enter Tryd.func4, Tryd.ntmps4
    go_wp2_with fail
    clear hW1
    refine SP.out.mono ?_
    rintro e w2 ⟨rfl, hb2⟩
    have HX2 := Lib.hid ((hb2.block _ hz1).trans HX1.out)
    have hz2 : w.heap.size < w2.heap.size := Nat.lt_of_lt_of_le hz1 hb2.size
    have HB2 := Lib.hid (ext_trans HB1.out hb2)
    have HR2 : Hid (0 < ps.length → ∃ b off, a = some ⟨b, off, none⟩ ∧ b < w.heap.size ∧ RowP w2 b off ps) := Lib.hid (fun h => by
      obtain ⟨b, off, h1, h2, h3⟩ := HR.out h
      exact ⟨b, off, h1, h2, h3.below HB2.out h2⟩)
    clear hb2 HX1 HR
    go_wp2_with (at_builtin; refine wpList_appP (w2.alloc (.cells #[] 23)) rfl _ _ rfl w2.heap.size w2.heap.size 0 0 [] ps rfl rfl (OwnP.empty w2) _ ps.length _ ?c1 rfl ?c2 ?c3 ?c4 ?c5 _ rfl ps.length ?c6 ?_)
    case c1 => rfl
    case c2 => exact HA.out
    case c3 =>
      intro h
      obtain ⟨b, off, h1, h2, h3⟩ := HR2.out h
      exact ⟨b, off, h1, h3.below (ext_alloc (Below.refl w2.heap.size w2) _) (by omega)⟩
    case c4 => simp; omega
    case c5 => simp
    case c6 => simp
    intro gi ci w3 ho3 hg3 _
    have hb3 : Below w2.heap.size w2 w3 := (ext_alloc (Below.refl w2.heap.size w2) _).grown hg3 (by simp) (fun q e => by cases e; exact Nat.le_refl _)
    have ho3 : OwnP w3 w2.heap.size gi ci ps := ho3
    have zi3 := ho3.parts.2
    have PK := Lib.hid (PRI.out w3 gi ho3.row zi3 ci)
    have HO3 := Lib.hid ho3; have HB3 := Lib.hid hb3
    clear ho3 hg3 hb3 PRI
    go_wp2_with fail
    go_at_call 12
    refine PK.out.mono ?_
    rintro _ w4 ⟨gg, n, cg, rfl, rfl, zg4, hrg4, hb4⟩
    have hb24 : Below w2.heap.size w2 w4 := HB3.out.trans (hb4.mono HB3.out.size)
    have RI4 := Lib.hid (HO3.out.row.below hb4 zi3)
    have RG4 := Lib.hid hrg4
    have hz4 : w.heap.size < w4.heap.size := Nat.lt_of_lt_of_le hz2 hb24.size
    have PK2 := Lib.hid (PRR.out w4 (fun h => by
      obtain ⟨b, off, h1, h2, h3⟩ := HR2.out h
      exact ⟨b, off, h1, Nat.lt_trans h2 hz4, h3.below hb24 (Nat.lt_trans h2 hz2)⟩))
    have zi4 : gi < w4.heap.size := Nat.lt_of_lt_of_le zi3 hb4.size
    have HB24 := Lib.hid hb24
    clear hrg4 hb4 hb24 PK PRR
    go_wp2_with fail
    go_at_call 13
    refine PK2.out.mono ?_
    rintro _ w5 ⟨gw, cw, rfl, ho5, hb5⟩
    have hb25 : Below w2.heap.size w2 w5 := HB24.out.trans (hb5.mono HB24.out.size)
    have RW5 := Lib.hid ho5.row
    have zw5 := ho5.parts.2
    have RI5 := Lib.hid (RI4.out.below hb5 zi4)
    have RG5 := Lib.hid (RG4.out.below hb5 zg4)
    have zi5 : gi < w5.heap.size := Nat.lt_of_lt_of_le zi4 hb5.size
    have zg5 : gg < w5.heap.size := Nat.lt_of_lt_of_le zg4 hb5.size
    have hz5 : w.heap.size < w5.heap.size := Nat.lt_of_lt_of_le hz4 hb5.size
    have HX5 := Lib.hid ((hb25.block _ hz2).trans HX2.out)
    have HB5 := Lib.hid (HB2.out.trans (hb25.mono HB2.out.size))
    have HR5 : Hid (0 < ps.length → ∃ b off, a = some ⟨b, off, none⟩ ∧ b < w5.heap.size ∧ RowP w5 b off ps) := Lib.hid (fun h => by
      obtain ⟨b, off, h1, h2, h3⟩ := HR2.out h
      exact ⟨b, off, h1, Nat.lt_trans h2 hz5, h3.below hb25 (Nat.lt_trans h2 hz2)⟩)
    clear ho5 hb5 hb25 PK2 HO3 HB3 HB24 RI4 RG4 HR2 HX2 zi3 zi4 zg4 hz4
    have hq : ∀ w', (∃ n : BW w5.heap.size w5, w' = n.w) → (loadVar 23 ⟨w.heap.size, 0, none⟩).run Tryd.prog w' = .ok (.agg cp) w' := fun w' h => by
      obtain ⟨n, rfl⟩ := h
      rw [← HCP.out]; exact pr_box ((n.below.block _ hz5).trans HX5.out)
    have h1 := fun n : BW w5.heap.size w5 => hasP_any n.w (some ⟨gi, 0, none⟩) ci ps p (fun _ => ⟨gi, 0, rfl, Nat.lt_of_lt_of_le zi5 n.below.size, RI5.out.below n.below zi5⟩) (by omega)
    have h2 := fun n : BW w5.heap.size w5 => rhasP_any n.w a cap ps p (fun h => by
      obtain ⟨b, off, h1, h2, h3⟩ := HR5.out h
      exact ⟨b, off, h1, Nat.lt_of_lt_of_le h2 n.below.size, h3.below n.below h2⟩) (by omega)
    have h3 := fun n : BW w5.heap.size w5 => hasP_any n.w (some ⟨gg, 0, none⟩) cg R p (fun _ => ⟨gg, 0, rfl, Nat.lt_of_lt_of_le zg5 n.below.size, RG5.out.below n.below zg5⟩) (by have := HRL.out; omega)
    rw [HCP.out] at h1 h2 h3
    rw [show decide (p ∈ R) = decide (p ∈ ps) from decide_eq_decide.2 HMEM.out] at h3
    generalize decide (p ∈ ps) = t at *
    have H1 := Lib.hid h1; have H2 := Lib.hid h2; have H3 := Lib.hid h3
    clear h1 h2 h3
    go_wp2
    refine wp_region_quietB w5.heap.size (by kernel_rfl) (by kernel_rfl) ?_
    repeat (first | (go_big_quiet_want; refine quiet_loadRow 23 _ _ hq _ rfl rfl ?_; go_big_quiet_on; simp only [Act.put, List.setIfInBounds_toArray, List.set_cons_zero, List.set_cons_succ]) | go_big_quiet_step ((first | (go_at_call 14; first | exact quiet_callB (H1.out _) (Nat.le_refl _) | exact quiet_callB (H3.out _) (Nat.le_refl _)) | (go_at_call 15; exact quiet_callB (H2.out _) (Nat.le_refl _)))))
    refine wpQuiet_nil ?_
    intro _ hw'
    obtain ⟨nb, hw4⟩ := hw'
    subst hw4
    have RG := Lib.hid (RG5.out.below nb.below zg5)
    have RW := Lib.hid (RW5.out.below nb.below zw5)
    have RI := Lib.hid (RI5.out.below nb.below zi5)
    have RL : Hid (0 < ps.length → ∃ b off, a = some ⟨b, off, none⟩ ∧ RowP nb.w b off ps) := Lib.hid (fun h => by
      obtain ⟨b, off, h1, h2, h3⟩ := HR5.out h
      exact ⟨b, off, h1, h3.below nb.below h2⟩)
    have HBB := Lib.hid (HB5.out.trans (nb.below.mono HB5.out.size))
    have hrl := HRL.out
    clear hq H1 H2 H3
    generalize nb.w = W6 at *
    go_wp2_with fail
    go_loopw [47] (IlRel R.length W6) (fun i _ => R.length - (intOf i).toNat)
    case atStart => exact ⟨0, 0, rfl, Nat.zero_le _, rfl⟩
    case round =>
      obtain ⟨j, nq, rfl, hj, rfl⟩ := hrel
      by_cases hlt : j < R.length
      · have t1 : decide ((j : Int) < (R.length : Int)) = true := decide_eq_true (by omega)
        have t1' : decide (j < R.length) = true := decide_eq_true hlt
        have q1 : IntKind.i64.wrap ((j : Int) + 1) = (j : Int) + 1 := IntWalk.i64_in _ (by omega)
        obtain ⟨x, hx⟩ := get_ex R j hlt
        have rl1 : ∀ {n}, (loadVar 23 ⟨gg, j * 32, none⟩).run Tryd.prog ((W6.drewN nq).drewN n) = .ok (.agg (prV x)) ((W6.drewN nq).drewN n) := fun {n} => by
          have h := (show RowP ((W6.drewN nq).drewN n) gg 0 R from RG.out).load hx
          rw [Nat.zero_add] at h; exact h
        have rl2 : ∀ {n}, (loadVar 23 ⟨gw, j * 32, none⟩).run Tryd.prog ((W6.drewN nq).drewN n) = .ok (.agg (prV x)) ((W6.drewN nq).drewN n) := fun {n} => by
          have h := (show RowP ((W6.drewN nq).drewN n) gw 0 R from RW.out).load hx
          rw [Nat.zero_add] at h; exact h
        have hl1 : ∀ w', (∃ n, w' = (W6.drewN nq).drewN n) → (loadVar 23 ⟨gg, j * 32, none⟩).run Tryd.prog w' = .ok (.agg (prV x)) w' := fun w' h => by
          obtain ⟨n, rfl⟩ := h
          exact rl1
        have hl2 : ∀ w', (∃ n, w' = (W6.drewN nq).drewN n) → (loadVar 23 ⟨gw, j * 32, none⟩).run Tryd.prog w' = .ok (.agg (prV x)) w' := fun w' h => by
          obtain ⟨n, rfl⟩ := h
          exact rl2
        have EQ : ∀ W, (Op.equalIn 10000 23 (.agg (prV x)) (.agg (prV x))).run Tryd.prog W = .ok true W := fun W => by
          have h := run_eqP x x W
          rw [decide_eq_true rfl] at h
          exact h
        obtain ⟨cx, hcx⟩ : ∃ cx, prV x = cx := ⟨_, rfl⟩
        rw [hcx] at hl1 hl2
        simp only [hcx] at EQ
        clear hcx hx rl1 rl2
        go_wp2
        refine wp_region_quiet_lit (by kernel_rfl) (by kernel_rfl) ?_
        repeat (first | (go_big_quiet_want; refine quiet_loadRow 23 _ _ hl1 _ rfl rfl ?_; go_big_quiet_on; simp only [Act.put, List.setIfInBounds_toArray, List.set_cons_zero, List.set_cons_succ]) | (go_big_quiet_want; refine quiet_loadRow 23 _ _ hl2 _ rfl rfl ?_; go_big_quiet_on; simp only [Act.put, List.setIfInBounds_toArray, List.set_cons_zero, List.set_cons_succ]) | (go_big_quiet_want; refine quiet_neqRow hgd EQ _ _ rfl rfl rfl ?_; go_big_quiet_on; simp only [Act.put, List.setIfInBounds_toArray, List.set_cons_zero, List.set_cons_succ]) | go_big_quiet_step (fail))
        refine wpQuiet_nil ?_
        intro _ hw'
        obtain ⟨nq2, hw2⟩ := hw'
        subst hw2
        go_wp2
        refine ⟨?_, by simp [intOf]; omega⟩
        have R : ∀ k, IlRel R.length W6 (.int .i64 ((j : Int) + 1)) (W6.drewN k) := fun k => ⟨j + 1, k, by go_num, hlt, rfl⟩
        first | exact R _ | ((repeat apply Exists.intro); exact ⟨R _, rfl⟩)
      · have t1 : decide ((j : Int) < (R.length : Int)) = false := decide_eq_false (by omega)
        have t1' : decide (j < R.length) = false := decide_eq_false hlt
        go_wp2_with fail
        have HW : Hid (Below w.heap.size w (W6.drewN nq)) := Lib.hid (drewN_heap0 HBB.out _)
        have RI' : Hid (RowP (W6.drewN nq) gi 0 ps) := RI
        have RL' : Hid (0 < ps.length → ∃ b off, a = some ⟨b, off, none⟩ ∧ RowP (W6.drewN nq) b off ps) := RL
        clear RI RL RG RW HBB
        have RI := RI'; have RL := RL'
        clear RI' RL'
        generalize W6.drewN nq = W6 at *
        go_loopw [62] (IlRel ps.length W6) (fun i _ => ps.length - (intOf i).toNat)
        case atStart => exact ⟨0, 0, rfl, Nat.zero_le _, rfl⟩
        case round =>
          obtain ⟨j, nq, rfl, hj, rfl⟩ := hrel
          by_cases hlt : j < ps.length
          · have t1 : decide ((j : Int) < (ps.length : Int)) = true := decide_eq_true (by omega)
            have t1' : decide (j < ps.length) = true := decide_eq_true hlt
            have q1 : IntKind.i64.wrap ((j : Int) + 1) = (j : Int) + 1 := IntWalk.i64_in _ (by omega)
            obtain ⟨x, hx⟩ := get_ex ps j hlt
            obtain ⟨b, off, rfl, hrow⟩ := RL.out (by omega)
            have rl1 : ∀ {n}, (loadVar 23 ⟨gi, j * 32, none⟩).run Tryd.prog ((W6.drewN nq).drewN n) = .ok (.agg (prV x)) ((W6.drewN nq).drewN n) := fun {n} => by
              have h := (show RowP ((W6.drewN nq).drewN n) gi 0 ps from RI.out).load hx
              rw [Nat.zero_add] at h; exact h
            have rl2 : ∀ {n}, (loadVar 23 ⟨b, off + j * 32, none⟩).run Tryd.prog ((W6.drewN nq).drewN n) = .ok (.agg (prV x)) ((W6.drewN nq).drewN n) := fun {n} =>
              (show RowP ((W6.drewN nq).drewN n) b off ps from hrow).load hx
            clear hrow
            have hl1 : ∀ w', (∃ n, w' = (W6.drewN nq).drewN n) → (loadVar 23 ⟨gi, j * 32, none⟩).run Tryd.prog w' = .ok (.agg (prV x)) w' := fun w' h => by
              obtain ⟨n, rfl⟩ := h
              exact rl1
            have hl2 : ∀ w', (∃ n, w' = (W6.drewN nq).drewN n) → (loadVar 23 ⟨b, off + j * 32, none⟩).run Tryd.prog w' = .ok (.agg (prV x)) w' := fun w' h => by
              obtain ⟨n, rfl⟩ := h
              exact rl2
            have EQ : ∀ W, (Op.equalIn 10000 23 (.agg (prV x)) (.agg (prV x))).run Tryd.prog W = .ok true W := fun W => by
              have h := run_eqP x x W
              rw [decide_eq_true rfl] at h
              exact h
            obtain ⟨cx, hcx⟩ : ∃ cx, prV x = cx := ⟨_, rfl⟩
            rw [hcx] at hl1 hl2
            simp only [hcx] at EQ
            clear hcx hx rl1 rl2
            go_wp2
            refine wp_region_quiet_lit (by kernel_rfl) (by kernel_rfl) ?_
            repeat (first | (go_big_quiet_want; refine quiet_loadRow 23 _ _ hl1 _ rfl rfl ?_; go_big_quiet_on; simp only [Act.put, List.setIfInBounds_toArray, List.set_cons_zero, List.set_cons_succ]) | (go_big_quiet_want; refine quiet_loadRow 23 _ _ hl2 _ rfl rfl ?_; go_big_quiet_on; simp only [Act.put, List.setIfInBounds_toArray, List.set_cons_zero, List.set_cons_succ]) | (go_big_quiet_want; refine quiet_neqRow hgd EQ _ _ rfl rfl rfl ?_; go_big_quiet_on; simp only [Act.put, List.setIfInBounds_toArray, List.set_cons_zero, List.set_cons_succ]) | go_big_quiet_step (fail))
            refine wpQuiet_nil ?_
            intro _ hw'
            obtain ⟨nq2, hw2⟩ := hw'
            subst hw2
            go_wp2
            refine ⟨?_, by simp [intOf]; omega⟩
            have R : ∀ k, IlRel ps.length W6 (.int .i64 ((j : Int) + 1)) (W6.drewN k) := fun k => ⟨j + 1, k, by go_num, hlt, rfl⟩
            first | exact R _ | ((repeat apply Exists.intro); exact ⟨R _, rfl⟩)
          · have t1 : decide ((j : Int) < (ps.length : Int)) = false := decide_eq_false (by omega)
            have t1' : decide (j < ps.length) = false := decide_eq_false hlt
            go_wp2
            go_ret
            exact ⟨rfl, drewN_heap0 HW.out _⟩
end Go.Proofs.YtmhfbdeeebbloaaDoor
