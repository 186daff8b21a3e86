/- slices.Compact at fingerprints: the walk. -/
import Derived.Test.YtmhfbdeeebbloaaDoorIdl9
namespace Go.Proofs.YtmhfbdeeebbloaaDoor
open Go.RowKit
def CpRel1 (l : List Pr) (W : World) (vk : Value) (wr : World) : Prop := ∃ m nq : Nat, vk = .int .i64 ((m : Int) + 1) ∧ m + 1 ≤ l.length ∧ compL (l.take (m + 1)) = l.take (m + 1) ∧ wr = W.drewN nq
def CpRel2 (l : List Pr) (g k0 : Nat) (W : World) (vk v5 : Value) (wr : World) : Prop := ∃ (kk m : Nat) (q : List Pr), vk = .int .i64 kk ∧ v5 = .int .i64 ((m : Int) + 1) ∧ k0 + m + 1 ≤ l.length ∧ kk ≤ k0 + m ∧ RowC W wr g l.length q ∧ (∀ i, kk ≤ i → q[i]? = l[i]?) ∧ q.take kk = compL (l.take (k0 + m + 1))
theorem compL_short {l : List Pr} (h : l.length < 2) : compL l = l := by
  match l, h with
  | [], _ => rfl
  | [a], _ => rfl
  | _ :: _ :: _, h => simp at h; omega
set_option maxRecDepth 100000 in
set_option maxHeartbeats 16000000 in
theorem compact_any (w : World) (g cap : Nat) (l : List Pr) (h : RowC w w g l.length l) (hc : l.length ≤ cap) (hm : l.length ≤ 100000) :
    Calls Tryd.prog 44 #[.slice (some ⟨g, 0, none⟩) l.length cap] w fun e w' => ∃ n, e = .returned (.slice (some ⟨g, 0, none⟩) n cap) ∧ n = (compL l).length ∧ RowP w' g 0 (compL l) ∧ w.grownBy w' (some g) := by
  have H := Lib.hid h
  clear h
  by_cases h2 : l.length < 2
  · have t1 : decide ((l.length : Int) < 2) = true := decide_eq_true (by omega)
    have HC := Lib.hid (compL_short h2)
    clear hc
    go_enter Tryd.func44, Tryd.ntmps44
    go_wp2
    go_ret
    exact ⟨_, rfl, by rw [HC.out], by rw [HC.out]; exact H.out.row, H.out.only⟩
  · have t1 : decide ((l.length : Int) < 2) = false := decide_eq_false (by omega)
    have hgd : Tryd.prog.eqGuardType Tryd.prog.depth 23 = false := by kernel_rfl
    go_enter Tryd.func44, Tryd.ntmps44
    go_wp2_with fail
    go_loopw [3] (CpRel1 l w) (fun k _ => l.length - (intOf k).toNat)
    case atStart =>
      refine ⟨0, 0, rfl, by omega, compL_short ?_, rfl⟩
      rw [List.length_take]; omega
    case round =>
      obtain ⟨m, nq, rfl, hml, hcm, rfl⟩ := hrel
      have q1 : IntKind.i64.wrap ((m : Int) + 1 + 1) = (m : Int) + 1 + 1 := IntWalk.i64_in _ (by omega)
      have q2 : IntKind.i64.wrap (m : Int) = (m : Int) := IntWalk.i64_in _ (by omega)
      by_cases hlt : m + 1 < l.length
      · have t2 : decide ((m : Int) + 1 < (l.length : Int)) = true := decide_eq_true (by omega)
        have t2' : decide (m + 1 < l.length) = true := decide_eq_true hlt
        obtain ⟨x, hx⟩ := get_ex l (m + 1) hlt
        obtain ⟨y, hy⟩ := get_ex l m (by omega)
        have hl1 : ∀ w', (∃ n, w' = (w.drewN nq).drewN n) → (loadVar 23 ⟨g, (m + 1) * 32, none⟩).run Tryd.prog w' = .ok (.agg (prV x)) w' := fun w' h => by
          obtain ⟨n, rfl⟩ := h
          exact ((H.out.drewN nq).drewN n).load hx
        have hl2 : ∀ w', (∃ n, w' = (w.drewN nq).drewN n) → (loadVar 23 ⟨g, m * 32, none⟩).run Tryd.prog w' = .ok (.agg (prV y)) w' := fun w' h => by
          obtain ⟨n, rfl⟩ := h
          exact ((H.out.drewN nq).drewN n).load hy
        have EQ := fun W => run_eqP x y W
        obtain ⟨cx, hcx⟩ : ∃ cx, prV x = cx := ⟨_, rfl⟩
        obtain ⟨cy, hcy⟩ : ∃ cx, prV y = cx := ⟨_, rfl⟩
        rw [hcx] at hl1
        rw [hcy] at hl2
        simp only [hcx, hcy] at EQ
        have HST := Lib.hid (compL_step hx hy)
        have HCM := Lib.hid hcm; have HX := Lib.hid hx
        clear hcx hcy hx hy hcm
        by_cases hxy : x = y
        · simp only [decide_eq_true hxy] at EQ
          have HCS : Hid (compL (l.take (m + 2)) = l.take (m + 1)) := Lib.hid (by rw [HST.out, if_pos hxy]; exact HCM.out)
          clear hxy
          go_wp2
          refine wp_region_quiet_lit (by kernel_rfl) (by kernel_rfl) ?_
          repeat (first | (go_big_quiet_want; refine quiet_loadRow 23 _ _ hl1 _ rfl rfl ?_; go_big_quiet_on; simp only [Act.put, List.setIfInBounds_toArray, List.set_cons_zero, List.set_cons_succ]) | (go_big_quiet_want; refine quiet_loadRow 23 _ _ hl2 _ rfl rfl ?_; go_big_quiet_on; simp only [Act.put, List.setIfInBounds_toArray, List.set_cons_zero, List.set_cons_succ]) | (go_big_quiet_want; refine quiet_eqRow hgd EQ _ _ rfl rfl rfl ?_; go_big_quiet_on; simp only [Act.put, List.setIfInBounds_toArray, List.set_cons_zero, List.set_cons_succ]) | go_big_quiet_step (fail))
          refine wpQuiet_nil ?_
          intro _ hw'
          obtain ⟨nq2, hw2⟩ := hw'
          subst hw2
          have hck : ¬ cap = m + 1 := by omega
          go_wp2_with fail
          go_loopw [3, 5] (CpRel2 l g (m + 1) w) (fun _ k2 _ => l.length - (intOf k2).toNat)
          case atStart => exact ⟨m + 1, 0, l, by go_num, rfl, hlt, Nat.le_refl _, H.out.drewN (nq + nq2), fun _ _ => rfl, HCS.out.symm⟩
          case round =>
            obtain ⟨kk, n2, q, rfl, rfl, hkl, hkk, hR, hq, hT⟩ := hrel
            have q3 : IntKind.i64.wrap ((n2 : Int) + 1 + 1) = (n2 : Int) + 1 + 1 := IntWalk.i64_in _ (by omega)
            have q4 : IntKind.i64.wrap (n2 : Int) = (n2 : Int) := IntWalk.i64_in _ (by omega)
            have q5 : IntKind.i64.wrap ((kk : Int) + 1) = (kk : Int) + 1 := IntWalk.i64_in _ (by omega)
            by_cases hlt2 : n2 + 1 < l.length - (m + 1)
            · have t3 : decide ((n2 : Int) + 1 < ((l.length - (m + 1) : Nat) : Int)) = true := decide_eq_true (by omega)
              have t3' : decide (n2 + 1 < l.length - (m + 1)) = true := decide_eq_true hlt2
              obtain ⟨x, hx⟩ := get_ex l (m + 1 + n2 + 1) (by omega)
              obtain ⟨y, hy⟩ := get_ex l (m + 1 + n2) (by omega)
              have hl1 : ∀ w', (∃ n, w' = wr.drewN n) → (loadVar 23 ⟨g, (m + 1) * 32 + (n2 + 1) * 32, none⟩).run Tryd.prog w' = .ok (.agg (prV x)) w' := fun w' h => by
                obtain ⟨n, rfl⟩ := h
                rw [show (m + 1) * 32 + (n2 + 1) * 32 = (m + 1 + n2 + 1) * 32 by omega]
                exact (hR.drewN n).load (by rw [hq _ (by omega)]; exact hx)
              have hl2 : ∀ w', (∃ n, w' = wr.drewN n) → (loadVar 23 ⟨g, (m + 1) * 32 + n2 * 32, none⟩).run Tryd.prog w' = .ok (.agg (prV y)) w' := fun w' h => by
                obtain ⟨n, rfl⟩ := h
                rw [show (m + 1) * 32 + n2 * 32 = (m + 1 + n2) * 32 by omega]
                exact (hR.drewN n).load (by rw [hq _ (by omega)]; exact hy)
              have EQ := fun W => run_eqP x y W
              obtain ⟨cx, hcx⟩ : ∃ cx, prV x = cx := ⟨_, rfl⟩
              obtain ⟨cy, hcy⟩ : ∃ cx, prV y = cx := ⟨_, rfl⟩
              rw [hcx] at hl1
              rw [hcy] at hl2
              simp only [hcx, hcy] at EQ
              have HST := Lib.hid (compL_step hx hy)
              have HCX := Lib.hid hcx; have HR := Lib.hid hR; have HQ := Lib.hid hq; have HT := Lib.hid hT
              clear hcx hcy hx hy hR hq hT
              by_cases hxy : x = y
              · simp only [decide_eq_true hxy] at EQ
                have HCS2 : Hid (q.take kk = compL (l.take (m + 1 + n2 + 2))) := Lib.hid (by rw [HST.out, if_pos hxy]; exact HT.out)
                clear hxy
                go_wp2
                refine wp_region_quiet_lit (by kernel_rfl) (by kernel_rfl) ?_
                repeat (first | (go_big_quiet_want; refine quiet_loadRow 23 _ _ hl1 _ rfl rfl ?_; go_big_quiet_on; simp only [Act.put, List.setIfInBounds_toArray, List.set_cons_zero, List.set_cons_succ]) | (go_big_quiet_want; refine quiet_loadRow 23 _ _ hl2 _ rfl rfl ?_; go_big_quiet_on; simp only [Act.put, List.setIfInBounds_toArray, List.set_cons_zero, List.set_cons_succ]) | (go_big_quiet_want; refine quiet_neqRow hgd EQ _ _ rfl rfl rfl ?_; go_big_quiet_on; simp only [Act.put, List.setIfInBounds_toArray, List.set_cons_zero, List.set_cons_succ]) | go_big_quiet_step (fail))
                refine wpQuiet_nil ?_
                intro _ hw'
                obtain ⟨nq2, hw2⟩ := hw'
                subst hw2
                go_wp2
                refine ⟨?_, by simp [intOf]; omega⟩
                have R : ∀ k, CpRel2 l g (m + 1) w (.int .i64 kk) (.int .i64 ((n2 : Int) + 1 + 1)) (wr.drewN k) := fun k => ⟨kk, n2 + 1, q, rfl, by go_num, by omega, by omega, HR.out.drewN k, HQ.out, HCS2.out⟩
                first | exact R _ | ((repeat apply Exists.intro); exact ⟨R _, rfl⟩)
              · simp only [decide_eq_false hxy] at EQ
                have HCS2 : Hid (q.take kk ++ [x] = compL (l.take (m + 1 + n2 + 2))) := Lib.hid (by rw [HST.out, if_neg hxy, HT.out])
                clear hxy
                go_wp2
                refine wp_region_quiet_lit (by kernel_rfl) (by kernel_rfl) ?_
                repeat (first | (go_big_quiet_want; refine quiet_loadRow 23 _ _ hl1 _ rfl rfl ?_; go_big_quiet_on; simp only [Act.put, List.setIfInBounds_toArray, List.set_cons_zero, List.set_cons_succ]) | (go_big_quiet_want; refine quiet_loadRow 23 _ _ hl2 _ rfl rfl ?_; go_big_quiet_on; simp only [Act.put, List.setIfInBounds_toArray, List.set_cons_zero, List.set_cons_succ]) | (go_big_quiet_want; refine quiet_neqRow hgd EQ _ _ rfl rfl rfl ?_; go_big_quiet_on; simp only [Act.put, List.setIfInBounds_toArray, List.set_cons_zero, List.set_cons_succ]) | go_big_quiet_step (fail))
                refine wpQuiet_nil ?_
                intro _ hw'
                obtain ⟨nq2, hw2⟩ := hw'
                subst hw2
                have hl3 := hl1 (wr.drewN nq2) ⟨nq2, rfl⟩
                have kn : kk < l.length := by omega
                have hth : (wr.drewN nq2).there g (kk * 32) cx.size := by
                  rw [show cx.size = 32 by rw [← HCX.out]; exact prC_size _ _]
                  exact (HR.out.drewN nq2).spot kn
                have hin : (Tryd.prog.info? 23).map (·.size) = some cx.size := by rw [show cx.size = 32 by rw [← HCX.out]; exact prC_size _ _]; exact prInfo
                have ho1 : cx.all (·.oneCell') = true := by rw [← HCX.out]; exact prC_one _ _
                have hP : RowC w ((wr.drewN nq2).setCells g (kk * 32) cx.toList) g l.length (q.set kk x) := by
                  rw [← HCX.out, prV_list]; exact (HR.out.drewN nq2).put kn x
                have HP := Lib.hid hP
                obtain ⟨W5, hW5⟩ : ∃ W, (wr.drewN nq2).setCells g (kk * 32) cx.toList = W := ⟨_, rfl⟩
                rw [hW5] at HP
                have HW5 := Lib.hid hW5
                clear hP hW5 hl1 hl2
                go_wp2_with ((with_reducible show wpList _ _ _ (_ :: _) _ _); first | (refine wpList_loadRowP 23 ⟨g, (m + 1) * 32 + (n2 + 1) * 32, none⟩ (.agg cx) hl3 _ rfl rfl rfl ?_) | (refine wpList_store_mid rfl 23 _ _ rfl g (kk * 32) cx rfl rfl hth hin ho1 ?_; rw [HW5.out]))
                have R : CpRel2 l g (m + 1) w (.int .i64 ((kk : Int) + 1)) (.int .i64 ((n2 : Int) + 1 + 1)) W5 := by
                  have hqz := HR.out.len
                  refine ⟨kk + 1, n2 + 1, q.set kk x, by go_num, by go_num, by omega, by omega, HP.out, fun i hi => ?_, ?_⟩
                  · rw [List.getElem?_set_ne (by omega)]; exact HQ.out i (by omega)
                  · have e : (q.set kk x).take (kk + 1) = q.take kk ++ [x] := by
                      rw [List.take_succ_eq_append_getElem (by rw [List.length_set]; omega), List.getElem_set_self, List.take_set_of_le (Nat.le_refl _)]
                    rw [e]; exact HCS2.out
                have HRR := Lib.hid R
                clear R
                go_wp2
                refine ⟨?_, by simp [intOf]; omega⟩
                have R := HRR.out
                first | exact R | ((repeat apply Exists.intro); exact ⟨R, rfl⟩)
            · have t3 : decide ((n2 : Int) + 1 < ((l.length - (m + 1) : Nat) : Int)) = false := decide_eq_false (by omega)
              have t3' : decide (n2 + 1 < l.length - (m + 1)) = false := decide_eq_false hlt2
              have hck2 : ¬ cap = kk := by omega
              have kl : kk ≤ l.length := by omega
              have HCL : Hid (q.take kk = compL l) := Lib.hid (by rw [hT, List.take_of_length_le (by omega)])
              obtain ⟨w8, CLR, hr8, hg8⟩ := hR.clear (k := kk) (m := l.length - kk) (c := cap - kk) (by omega)
              rw [HCL.out] at hr8
              have hkz : kk = (compL l).length := by rw [← HCL.out, List.length_take, hR.len]; omega
              have HR8 := Lib.hid hr8; have HG8 := Lib.hid hg8; have HKZ := Lib.hid hkz
              clear hr8 hg8 hkz hR hq hT
              go_wp2
              go_ret
              exact ⟨_, rfl, HKZ.out, HR8.out, HG8.out⟩
        · simp only [decide_eq_false hxy] at EQ
          have HCS : Hid (compL (l.take (m + 2)) = l.take (m + 2)) := Lib.hid (by
            rw [HST.out, if_neg hxy, HCM.out]
            obtain ⟨h1, h2⟩ := List.getElem?_eq_some_iff.1 HX.out
            rw [← h2, ← List.take_succ_eq_append_getElem h1])
          clear hxy
          go_wp2
          refine wp_region_quiet_lit (by kernel_rfl) (by kernel_rfl) ?_
          repeat (first | (go_big_quiet_want; refine quiet_loadRow 23 _ _ hl1 _ rfl rfl ?_; go_big_quiet_on; simp only [Act.put, List.setIfInBounds_toArray, List.set_cons_zero, List.set_cons_succ]) | (go_big_quiet_want; refine quiet_loadRow 23 _ _ hl2 _ rfl rfl ?_; go_big_quiet_on; simp only [Act.put, List.setIfInBounds_toArray, List.set_cons_zero, List.set_cons_succ]) | (go_big_quiet_want; refine quiet_eqRow hgd EQ _ _ rfl rfl rfl ?_; go_big_quiet_on; simp only [Act.put, List.setIfInBounds_toArray, List.set_cons_zero, List.set_cons_succ]) | go_big_quiet_step (fail))
          refine wpQuiet_nil ?_
          intro _ hw'
          obtain ⟨nq2, hw2⟩ := hw'
          subst hw2
          go_wp2
          refine ⟨?_, by simp [intOf]; omega⟩
          have R : ∀ k, CpRel1 l w (.int .i64 ((m : Int) + 1 + 1)) (w.drewN k) := fun k => ⟨m + 1, k, by go_num, hlt, HCS.out, rfl⟩
          first | exact R _ | ((repeat apply Exists.intro); exact ⟨R _, rfl⟩)
      · have t2 : decide ((m : Int) + 1 < (l.length : Int)) = false := decide_eq_false (by omega)
        have t2' : decide (m + 1 < l.length) = false := decide_eq_false hlt
        have HCL : Hid (compL l = l) := Lib.hid (by rw [List.take_of_length_le (by omega)] at hcm; exact hcm)
        clear hcm
        go_wp2
        go_ret
        exact ⟨_, rfl, by rw [HCL.out], by rw [HCL.out]; exact (H.out.drewN nq).row, (H.out.drewN nq).only⟩
end Go.Proofs.YtmhfbdeeebbloaaDoor
