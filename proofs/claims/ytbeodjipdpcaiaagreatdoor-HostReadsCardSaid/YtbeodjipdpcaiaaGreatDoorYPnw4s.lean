/- Texts put together. -/
import Derived.Test.YtbeodjipdpcaiaaGreatDoorYPnw3
import Derived.Test.YtbeodjipdpcaiaaGreatDoorYScan4sf
import Derived.Test.YtbeodjipdpcaiaaGreatDoorYLab0s
import Derived.Laws.IdiomCopy
set_option maxRecDepth 100000
set_option maxHeartbeats 4000000
namespace Go.Proofs.YtbeodjipdpcaiaaGreatDoor
section
open Go.RowKit
def RdrAt (w : World) (R : Nat) (s : ByteArray) (at_ bias : Nat) : Prop := w.heap[R]? = some (.cells #[.string s, .int .i64 at_, .int .i64 bias] 254 (0, 0))
theorem RdrAt.c0 {w : World} {R : Nat} {s : ByteArray} {a b : Nat} (h : RdrAt w R s a b) : w.cell? ⟨R, 0, none⟩ = some (.string s) := by rw [Lib.cell_of_heap h]; rfl
theorem RdrAt.c1 {w : World} {R : Nat} {s : ByteArray} {a b : Nat} (h : RdrAt w R s a b) : w.cell? ⟨R, 1, none⟩ = some (.int .i64 a) := by rw [Lib.cell_of_heap h]; rfl
theorem RdrAt.c2 {w : World} {R : Nat} {s : ByteArray} {a b : Nat} (h : RdrAt w R s a b) : w.cell? ⟨R, 2, none⟩ = some (.int .i64 b) := by rw [Lib.cell_of_heap h]; rfl
theorem RdrAt.fz {w : World} {R : Nat} {s : ByteArray} {a b : Nat} (h : RdrAt w R s a b) (i : Nat) : w.frozen? ⟨R, i, none⟩ = false := Lib.frozen_of_heap h i
theorem RdrAt.lt {w : World} {R : Nat} {s : ByteArray} {a b : Nat} (h : RdrAt w R s a b) : R < w.heap.size := (Array.getElem?_eq_some_iff.1 h).1
theorem RdrAt.set1 {w : World} {R : Nat} {s : ByteArray} {a b : Nat} (h : RdrAt w R s a b) (a' : Nat) : RdrAt (w.setCell ⟨R, 1, none⟩ (.int .i64 a')) R s a' b := by
 have := Go.Joins.block_setCell h (i := 1) (.int .i64 (a' : Int))
 unfold RdrAt
 rw [this]; rfl
theorem RdrAt.set2 {w : World} {R : Nat} {s : ByteArray} {a b : Nat} (h : RdrAt w R s a b) (b' : Nat) : RdrAt (w.setCell ⟨R, 2, none⟩ (.int .i64 b')) R s a b' := by
 have := Go.Joins.block_setCell h (i := 2) (.int .i64 (b' : Int))
 unfold RdrAt
 rw [this]; rfl
theorem RdrAt.below {w w' : World} {R : Nat} {s : ByteArray} {a b : Nat} (h : RdrAt w R s a b) (hb : Below w.heap.size w w') : RdrAt w' R s a b := by
 unfold RdrAt; rw [hb.block R h.lt]; exact h
def rnumG (s : ByteArray) (b at_ n w k : Nat) : Sc (Nat × Nat) := rnumF s b (s.size - at_ + 1) at_ n w k
theorem rnumG_eq {s : ByteArray} {b at_ n w k : Nat} (h : at_ < s.size) : rnumG s b at_ n w k = if 36 ≤ valN (byteAt s at_) then .no 11 at_
    else if 2147483647 < n + valN (byteAt s at_) * w then .no 16 at_
    else if valN (byteAt s at_) < thrN k b then .ok (n + valN (byteAt s at_) * w, at_ + 1)
    else if 2147483647 < w * (36 - thrN k b) then .no 16 at_
    else rnumG s b (at_ + 1) (n + valN (byteAt s at_) * w) (w * (36 - thrN k b)) (k + 36) := by
 unfold rnumG
 rw [rnumF, if_neg (by omega), show s.size - at_ = s.size - (at_ + 1) + 1 by omega]
theorem rnumG_end {s : ByteArray} {b n w k : Nat} : rnumG s b s.size n w k = .no 10 s.size := by
 unfold rnumG
 rw [rnumF, if_pos rfl]
def RnmPost (R : Nat) (s : ByteArray) (bias : Nat) (w : World) (r : Sc (Nat × Nat)) (e : Ending) (w' : World) : Prop := Only (· = R) w w' ∧ match r with
 | .ok x => e = .returned (.tuple #[.int .i64 x.1, .nilIface]) ∧ RdrAt w' R s x.2 bias ∧ x.1 ≤ 2147483647
 | .no k p => ∃ u, e = .returned (.tuple #[.int .i64 0, u]) ∧ Er w' u [((k : Int), p)]
def RnmRel (R : Nat) (s : ByteArray) (bias at0 : Nat) (Z : Sc (Nat × Nat)) (w : World) (nv wv kv : Value) (wr : World) : Prop := ∃ (n wt k a : Nat), nv = .int .i64 n ∧ wv = .int .i64 wt ∧ kv = .int .i64 k ∧ n ≤ 2147483647 ∧ 1 ≤ wt ∧ wt ≤ 2147483647 ∧ at0 ≤ a ∧ a ≤ s.size ∧ k = 36 + 36 * (a - at0) ∧ RdrAt wr R s a bias ∧ Only (· = R) w wr ∧ rnumG s bias a n wt k = Z
theorem only_drewN {T : Nat → Prop} {a b : World} (h : Only T a b) (n : Nat) : Only T a (b.drewN n) := ⟨h.os, h.tape, h.output, h.size, h.block⟩
theorem er_fail {R : Nat} {w wr : World} {k : Nat} {p : Int} (h : Only (· = R) w wr) : Er (wr.alloc (.cells #[.int .i64 k, .int .i64 p, .nilIface] 123)) (.iface 119 (.pointer (some ⟨wr.heap.size, 0, none⟩))) [((k : Int), p)] ∧ Only (· = R) w (wr.alloc (.cells #[.int .i64 k, .int .i64 p, .nilIface] 123)) := by
 have := failed_er (failed_of (w := wr) (w0 := wr) (k := k) (i := p) (Below.refl _ _) rfl)
 exact ⟨this.1, h.alloc _⟩
theorem rnumber_any (R : Nat) (s : ByteArray) (at0 bias : Nat) (w : World) (h : RdrAt w R s at0 bias) (hat : at0 ≤ s.size) (hs : s.size ≤ 1000000) (hb : bias ≤ 10000000000) :
    Calls Tryz.prog 227 #[.pointer (some ⟨R, 0, none⟩)] w (RnmPost R s bias w (rnumS s bias at0)) := by
 obtain ⟨Z, hZ⟩ : ∃ Z, rnumS s bias at0 = Z := ⟨_, rfl⟩
 rw [hZ]
 have HR0 : Hid (RnmRel R s bias at0 Z w (.int .i64 0) (.int .i64 1) (.int .i64 36) w) := hid ⟨0, 1, 36, at0, rfl, rfl, rfl, by omega, by omega, by omega, Nat.le_refl _, hat, by omega, h, Only.refl _ _, hZ⟩
 clear h hZ
 go_enter Tryz.func227, Tryz.ntmps227
 go_wp2_with fail
 go_loopw [2, 4, 5] (RnmRel R s bias at0 Z w) (fun _ _ k _ => 36 * s.size + 100 - (intOf k).toNat)
 case atStart => exact HR0.out
 case round =>
  obtain ⟨n, wt, k, a, rfl, rfl, rfl, hn, hw1, hw2, ha0, haz, hk, hR, hO, hr⟩ := hrel
  have c0 := hR.c0; have c1 := hR.c1; have c2 := hR.c2; have f1 := hR.fz 1
  have hRl := hR.lt
  have HRA := hid hR; have HO := hid hO
  have HKK := hid hk
  clear hR hO
  by_cases hend : a = s.size
  · subst hend
    rw [rnumG_end] at hr
    have t1 : ((s.size : Int) == (s.size : Int)) = true := by simp
    have HRR := hid hr
    clear hr hk
    go_wp2_with fail
    go_quiet (fail)
    have HOQ := hid (only_drewN HO.out nq)
    have hRq : RdrAt (wr.drewN nq) R s s.size bias := HRA.out
    have d1 := hRq.c1
    clear c0 c1 c2 f1 hRq
    generalize wr.drewN nq = wq at *
    go_wp2_with fail
    go_at_call 44
    refine (fail_any _ _ _).mono ?_
    rintro e w3 ⟨rfl, rfl⟩
    have HF := hid (er_fail (k := 10) (p := s.size) HOQ.out)
    go_wp2
    go_ret2
    rw [← HRR.out]
    exact ⟨HF.out.2, _, rfl, HF.out.1⟩
  · have hlt : a < s.size := by omega
    have t1 : ((a : Int) == (s.size : Int)) = false := by simp; omega
    have t1' : decide (a < s.size) = true := dcT hlt
    rw [rnumG_eq hlt] at hr
    have hb256 := byteAt_lt s a
    have PV := hid (fun W => pvalue_any (byteAt s a) W hb256)
    have hgb := byteAt_get s a hlt
    have HGB := hid hgb
    rw [hgb] at PV hr
    obtain ⟨x, hx⟩ : ∃ x, (s[a]'hlt).toNat = x := ⟨_, rfl⟩
    have HXX := hid hx
    rw [hx] at PV hr
    clear hgb hend hk hb256
    by_cases hv : 36 ≤ valN x
    · rw [if_pos hv] at hr
      have HPV : Hid (pvV x = .tuple #[.int .i64 0, .bool false]) := hid (by unfold pvV; rw [if_neg (by omega)])
      rw [HPV.out] at PV
      have HRR := hid hr
      clear hr hv
      go_wp2_with fail
      go_quiet (fail)
      have HOQ := hid (only_drewN HO.out nq)
      have hRq : RdrAt (wr.drewN nq) R s a bias := HRA.out
      have HRQ := hid hRq
      have d0 := hRq.c0; have d1 := hRq.c1; have d2 := hRq.c2; have g1 := hRq.fz 1
      have hRl2 := hRq.lt
      clear c0 c1 c2 f1 hRl hRq
      generalize wr.drewN nq = wq at *
      go_wp2_with fail
      go_quiet ((go_at_call 253; exact quiet_eq (PV.out _)))
      have HOQ2 := hid (only_drewN HOQ.out nq)
      have hRq : RdrAt (wq.drewN nq) R s a bias := HRQ.out
      have HRQ2 := hid hRq
      have e0 := hRq.c0; have e1 := hRq.c1; have e2 := hRq.c2; have h1 := hRq.fz 1
      have hRl3 := hRq.lt
      clear d0 d1 d2 g1 hRl2 hRq
      generalize wq.drewN nq = w4 at *
      go_wp2_with fail
      go_at_call 44
      refine (fail_any _ _ _).mono ?_
      rintro e w3 ⟨rfl, rfl⟩
      have HF := hid (er_fail (k := 11) (p := a) HOQ2.out)
      go_wp2
      go_ret2
      rw [← HRR.out]
      exact ⟨HF.out.2, _, rfl, HF.out.1⟩
    · rw [if_neg hv] at hr
      obtain ⟨d, hd⟩ : ∃ d, valN x = d := ⟨_, rfl⟩
      have HPV : Hid (pvV x = .tuple #[.int .i64 (d : Nat), .bool true]) := hid (by unfold pvV; rw [if_pos (by omega), hd])
      rw [HPV.out] at PV
      rw [hd] at hr hv
      have hq : (2147483647 - (n : Int)).tdiv (wt : Int) = (2147483647 - (n : Int)) / (wt : Int) := Int.tdiv_eq_ediv_of_nonneg (by omega)
      obtain ⟨q, hqq⟩ : ∃ q : Nat, (2147483647 - n) / wt = q := ⟨_, rfl⟩
      have hqi : (2147483647 - (n : Int)).tdiv (wt : Int) = (q : Int) := by
       rw [show (2147483647 : Int) - (n : Int) = ((2147483647 - n : Nat) : Int) by omega, ← hqq]
       exact (Int.ofNat_tdiv _ _).symm
      have hql : q ≤ 2147483647 := by rw [← hqq]; exact Nat.le_trans (Nat.div_le_self _ _) (by omega)
      have p1 : IntKind.i64.wrap (2147483647 - (n : Int)) = 2147483647 - (n : Int) := i64n _ (by omega)
      have p2 : IntKind.i64.wrap (q : Int) = (q : Int) := i64n _ (by omega)
      have p3 : ((wt : Int) == 0) = false := by simp; omega
      have p3' : ((wt : Int) = 0) = False := by simp; omega
      have p3'' : (wt = 0) = False := by simp; omega
      by_cases hov : 2147483647 < n + d * wt
      · rw [if_pos hov] at hr
        have hqd : q < d := by
         rw [← hqq, Nat.div_lt_iff_lt_mul (by omega)]; omega
        obtain ⟨t5, t5'⟩ := ltT q d hqd
        have HRR := hid hr
        clear hr hv hov hq hqq hqd hd
        go_wp2_with fail
        go_quiet (fail)
        have HOQ := hid (only_drewN HO.out nq)
        have hRq : RdrAt (wr.drewN nq) R s a bias := HRA.out
        have HRQ := hid hRq
        have d0 := hRq.c0; have d1 := hRq.c1; have d2 := hRq.c2; have g1 := hRq.fz 1
        have hRl2 := hRq.lt
        clear c0 c1 c2 f1 hRl hRq
        generalize wr.drewN nq = wq at *
        go_wp2_with fail
        go_quiet ((go_at_call 253; exact quiet_eq (PV.out _)))
        have HOQ2 := hid (only_drewN HOQ.out nq)
        have hRq : RdrAt (wq.drewN nq) R s a bias := HRQ.out
        have HRQ2 := hid hRq
        have e0 := hRq.c0; have e1 := hRq.c1; have e2 := hRq.c2; have h1 := hRq.fz 1
        have hRl3 := hRq.lt
        clear d0 d1 d2 g1 hRl2 hRq
        generalize wq.drewN nq = w4 at *
        go_wp2_with fail
        go_at_call 44
        refine (fail_any _ _ _).mono ?_
        rintro e w3 ⟨rfl, rfl⟩
        have HF := hid (er_fail (k := 16) (p := a) HOQ2.out)
        go_wp2
        go_ret2
        rw [← HRR.out]
        exact ⟨HF.out.2, _, rfl, HF.out.1⟩
      · rw [if_neg hov] at hr
        have hqd : d ≤ q := by
         rw [← hqq, Nat.le_div_iff_mul_le (by omega)]; omega
        have t5 : decide ((q : Int) < (d : Int)) = false := dcF (by omega)
        have t5' : decide (q < d) = false := dcF (by omega)
        obtain ⟨y, hy⟩ : ∃ y, d * wt = y := ⟨_, rfl⟩
        rw [hy] at hr hov
        have hyi : (d : Int) * (wt : Int) = (y : Int) := by rw [← hy]; push_cast; rfl
        have p4 : IntKind.i64.wrap ((d : Int) * (wt : Int)) = (y : Int) := by rw [hyi]; exact i64n _ (by omega)
        have p5 : IntKind.i64.wrap ((n : Int) + (y : Int)) = (n : Int) + (y : Int) := i64n _ (by omega)
        have hkl : k ≤ 36 + 36 * s.size := by have := HKK.out; omega
        have TH := hid (fun W => thr_any k bias W (by omega) (by omega))
        obtain ⟨t, ht⟩ : ∃ t, thrN k bias = t := ⟨_, rfl⟩
        have t6 := thrN_ge k bias
        have t7 := thrN_le k bias
        rw [ht] at TH t6 t7 hr
        have q1 := inc a (by omega)
        clear hq hqq hqd hyi hy ht
        by_cases hdt : d < t
        · rw [if_pos hdt] at hr
          obtain ⟨t8, t8'⟩ := ltT d t hdt
          have HRR := hid hr
          clear hr hdt hv hd
          go_wp2_with fail
          go_quiet (fail)
          have HOQ := hid (only_drewN HO.out nq)
          have hRq : RdrAt (wr.drewN nq) R s a bias := HRA.out
          have HRQ := hid hRq
          have d0 := hRq.c0; have d1 := hRq.c1; have d2 := hRq.c2; have g1 := hRq.fz 1
          have hRl2 := hRq.lt
          clear c0 c1 c2 f1 hRl hRq
          generalize wr.drewN nq = wq at *
          go_wp2_with fail
          go_quiet ((go_at_call 253; exact quiet_eq (PV.out _)))
          have HOQ2 := hid (only_drewN HOQ.out nq)
          have hRq : RdrAt (wq.drewN nq) R s a bias := HRQ.out
          have HRQ2 := hid hRq
          have e0 := hRq.c0; have e1 := hRq.c1; have e2 := hRq.c2; have h1 := hRq.fz 1
          have hRl3 := hRq.lt
          clear d0 d1 d2 g1 hRl2 hRq
          generalize wq.drewN nq = w4 at *
          go_wp2_with fail
          refine (TH.out _).mono ?_
          rintro e w5 ⟨rfl, hw5⟩
          subst hw5
          have HF : Hid (RnmPost R s bias w (.ok (n + y, a + 1)) (.returned (.tuple #[.int .i64 ((n : Int) + (y : Int)), .nilIface])) (w4.setCell ⟨R, 1, none⟩ (.int .i64 ((a : Int) + 1)))) := hid ⟨HOQ2.out.set (p := ⟨R, 1, none⟩) (fun _ => rfl) _, by push_cast; rfl, HRQ2.out.set1 (a + 1), by show n + y ≤ _; omega⟩
          clear hov
          go_wp2
          go_ret2
          rw [← HRR.out]
          exact HF.out
        · rw [if_neg hdt] at hr
          obtain ⟨t8, t8'⟩ := ltF d t hdt
          obtain ⟨z, hz⟩ : ∃ z, 2147483647 / (36 - t) = z := ⟨_, rfl⟩
          have hzi : (2147483647 : Int).tdiv (36 - (t : Int)) = (z : Int) := by
           rw [show (36 : Int) - (t : Int) = ((36 - t : Nat) : Int) by omega, ← hz]
           exact (Int.ofNat_tdiv 2147483647 _).symm
          have hzl : z ≤ 2147483647 := by rw [← hz]; exact Nat.div_le_self _ _
          have p6 : IntKind.i64.wrap (36 - (t : Int)) = 36 - (t : Int) := i64n _ (by omega)
          have p7 : IntKind.i64.wrap (z : Int) = (z : Int) := i64n _ (by omega)
          have p8 : ((36 - (t : Int)) == 0) = false := by simp; omega
          have p8' : (36 - (t : Int) = 0) = False := by simp; omega
          by_cases hzw : 2147483647 < wt * (36 - t)
          · rw [if_pos hzw] at hr
            have hzd : z < wt := by rw [← hz, Nat.div_lt_iff_lt_mul (by omega)]; omega
            obtain ⟨t9, t9'⟩ := ltT z wt hzd
            have HRR := hid hr
            clear hr hdt hv hd hzw hz hzd hov
            go_wp2_with fail
            go_quiet (fail)
            have HOQ := hid (only_drewN HO.out nq)
            have hRq : RdrAt (wr.drewN nq) R s a bias := HRA.out
            have HRQ := hid hRq
            have d0 := hRq.c0; have d1 := hRq.c1; have d2 := hRq.c2; have g1 := hRq.fz 1
            have hRl2 := hRq.lt
            clear c0 c1 c2 f1 hRl hRq
            generalize wr.drewN nq = wq at *
            go_wp2_with fail
            go_quiet ((go_at_call 253; exact quiet_eq (PV.out _)))
            have HOQ2 := hid (only_drewN HOQ.out nq)
            have hRq : RdrAt (wq.drewN nq) R s a bias := HRQ.out
            have HRQ2 := hid hRq
            have e0 := hRq.c0; have e1 := hRq.c1; have e2 := hRq.c2; have h1 := hRq.fz 1
            have hRl3 := hRq.lt
            clear d0 d1 d2 g1 hRl2 hRq
            generalize wq.drewN nq = w4 at *
            go_wp2_with fail
            refine (TH.out _).mono ?_
            rintro e w5 ⟨rfl, hw5⟩
            subst hw5
            go_wp2_with fail
            go_at_call 44
            refine (fail_any _ _ _).mono ?_
            rintro e w3 ⟨rfl, rfl⟩
            have HF := hid (er_fail (k := 16) (p := a) HOQ2.out)
            go_wp2
            go_ret2
            rw [← HRR.out]
            exact ⟨HF.out.2, _, rfl, HF.out.1⟩
          · rw [if_neg hzw] at hr
            have hzd : wt ≤ z := by rw [← hz, Nat.le_div_iff_mul_le (by omega)]; omega
            have t9 : decide ((z : Int) < (wt : Int)) = false := dcF (by omega)
            have t9' : decide (z < wt) = false := dcF (by omega)
            obtain ⟨x2, hx2⟩ : ∃ x2, wt * (36 - t) = x2 := ⟨_, rfl⟩
            rw [hx2] at hr hzw
            have hx2i : (wt : Int) * (36 - (t : Int)) = (x2 : Int) := by rw [show (36 : Int) - (t : Int) = ((36 - t : Nat) : Int) by omega, ← hx2]; push_cast; rfl
            have p9 : IntKind.i64.wrap ((wt : Int) * (36 - (t : Int))) = (x2 : Int) := by rw [hx2i]; exact i64n _ (by omega)
            have hx21 : 1 ≤ x2 := by rw [← hx2]; exact Nat.mul_pos (by omega) (by omega)
            have q2 : IntKind.i64.wrap ((k : Int) + 36) = (k : Int) + 36 := i64n _ (by omega)
            have HNXT : Hid (∀ W, Only (· = R) w W → RdrAt W R s (a + 1) bias → RnmRel R s bias at0 Z w (.int .i64 ((n : Int) + (y : Int))) (.int .i64 x2) (.int .i64 ((k : Int) + 36)) W) := hid (fun W h1 h2 => ⟨n + y, x2, k + 36, a + 1, by push_cast; rfl, rfl, by go_num, by omega, hx21, by omega, by omega, by omega, by have := HKK.out; omega, h2, h1, hr⟩)
            clear hr hdt hv hd hzw hz hzd hov hx2 hx2i
            go_wp2_with fail
            go_quiet (fail)
            have HOQ := hid (only_drewN HO.out nq)
            have hRq : RdrAt (wr.drewN nq) R s a bias := HRA.out
            have HRQ := hid hRq
            have d0 := hRq.c0; have d1 := hRq.c1; have d2 := hRq.c2; have g1 := hRq.fz 1
            have hRl2 := hRq.lt
            clear c0 c1 c2 f1 hRl hRq
            generalize wr.drewN nq = wq at *
            go_wp2_with fail
            go_quiet ((go_at_call 253; exact quiet_eq (PV.out _)))
            have HOQ2 := hid (only_drewN HOQ.out nq)
            have hRq : RdrAt (wq.drewN nq) R s a bias := HRQ.out
            have HRQ2 := hid hRq
            have e0 := hRq.c0; have e1 := hRq.c1; have e2 := hRq.c2; have h1 := hRq.fz 1
            have hRl3 := hRq.lt
            clear d0 d1 d2 g1 hRl2 hRq
            generalize wq.drewN nq = w4 at *
            go_wp2_with fail
            refine (TH.out _).mono ?_
            rintro e w5 ⟨rfl, hw5⟩
            subst hw5
            have HRL := hid (HNXT.out (w4.setCell ⟨R, 1, none⟩ (.int .i64 ((a : Int) + 1))) (HOQ2.out.set (p := ⟨R, 1, none⟩) (fun _ => rfl) _) (HRQ2.out.set1 (a + 1)))
            go_wp2
            refine ⟨?_, by simp [intOf]; omega⟩
            first | exact HRL.out | ((repeat apply Exists.intro); exact ⟨HRL.out, rfl⟩)
end
section
open Go.RowKit Go.Sort
theorem setCells_heap (g : Nat) : ∀ (vs : List Value) (o : Nat) (w : World) (cur : Array Value) (te : TypeId) (fr : Nat × Nat), w.heap[g]? = some (.cells cur te fr) → ∃ cur' : Array Value, (w.setCells g o vs).heap[g]? = some (.cells cur' te fr) ∧ cur'.size = cur.size ∧ ∀ j, j < cur.size → cur'[j]? = if o ≤ j ∧ j < o + vs.length then vs[j - o]? else cur[j]?
 | [], o, w, cur, te, fr, h => ⟨cur, h, rfl, fun j _ => by rw [if_neg (by simp)]⟩
 | v :: vs, o, w, cur, te, fr, h => by
   have h1 := Go.Joins.block_setCell h (i := o) v
   obtain ⟨cur', h2, h3, h4⟩ := setCells_heap g vs (o + 1) (w.setCell ⟨g, o, none⟩ v) _ te fr h1
   refine ⟨cur', h2, by rw [h3]; simp, fun j hj => ?_⟩
   rw [h4 j (by simpa using hj), List.length_cons]
   by_cases e : j = o
   · subst e
     rw [if_neg (by omega), if_pos (by omega), Nat.sub_self]
     simp [hj]
   · by_cases hc : o + 1 ≤ j ∧ j < o + 1 + vs.length
     · rw [if_pos hc, if_pos (by omega)]
       obtain ⟨q, hq⟩ : ∃ q, j = o + 1 + q := ⟨j - (o + 1), by omega⟩
       subst hq
       rw [show o + 1 + q - (o + 1) = q by omega, show o + 1 + q - o = q + 1 by omega]
       simp
     · rw [if_neg hc, if_neg (by omega), Array.getElem?_setIfInBounds, if_neg (by omega)]
theorem setCells_else (g : Nat) : ∀ (vs : List Value) (o : Nat) (w : World), (w.setCells g o vs).heap.size = w.heap.size ∧ (∀ k, k ≠ g → (w.setCells g o vs).heap[k]? = w.heap[k]?) ∧ (w.setCells g o vs).os = w.os ∧ (w.setCells g o vs).tape = w.tape ∧ (w.setCells g o vs).output = w.output
 | [], o, w => ⟨rfl, fun _ _ => rfl, rfl, rfl, rfl⟩
 | v :: vs, o, w => by
   obtain ⟨h1, h2, h3, h4, h5⟩ := setCells_else g vs (o + 1) (w.setCell ⟨g, o, none⟩ v)
   exact ⟨h1.trans (by simp), fun k hk => (h2 k hk).trans (Below.heap_setCell w ⟨g, o, none⟩ v k hk), h3, h4, h5⟩
theorem irow_of {w : World} {g n cap : Nat} {l : List Int} {cur : Array Value} (hb : w.heap[g]? = some (.cells cur 3 (0, 0))) (hc : cur.size = cap) (hl : l.length = n) (h1 : n ≤ cap) (h2 : cap ≤ maxLen) (h : ∀ j, j < n → cur[j]? = (l[j]?).map (Value.int .i64)) : IRow w g n cap l := by
 refine ⟨hl, ⟨cur, hb, hc, ?_⟩, h1, h2⟩
 apply List.ext_getElem?
 intro j
 rw [List.getElem?_map]
 by_cases hj : j < n
 · rw [List.getElem?_take_of_lt hj, Array.getElem?_toList, h j hj]
 · rw [List.getElem?_take_eq_none (by omega), List.getElem?_eq_none (by omega)]; rfl
theorem IRow.own {w : World} {B g n cap : Nat} {l : List Int} (h : IRow w g n cap l) (hB : B ≤ g) : w.ownsRow B 3 1 (.slice (some ⟨g, 0, none⟩) n cap) n (l.map (Value.int .i64)) := by
 obtain ⟨hl, ⟨cur, hb, hc, ht⟩, h1, h2⟩ := h
 exact ⟨by simp [hl], .inr ⟨g, cap, cur, rfl, hB, hb, h1, h2, by omega, by simpa using ht⟩⟩
def insL (l : List Int) (p : Nat) (x : Int) : List Int := l.take p ++ x :: l.drop p
theorem insL_len {l : List Int} {p : Nat} {x : Int} (h : p ≤ l.length) : (insL l p x).length = l.length + 1 := by unfold insL; simp; omega
theorem insL_at {l : List Int} {p : Nat} {x : Int} (h : p ≤ l.length) (j : Nat) : (insL l p x)[j]? = if j < p then l[j]? else if j = p then some x else l[j - 1]? := by
 unfold insL
 by_cases h1 : j < p
 · rw [if_pos h1, List.getElem?_append_left (by rw [List.length_take]; omega), List.getElem?_take_of_lt h1]
 · rw [if_neg h1, List.getElem?_append_right (by rw [List.length_take]; omega), List.length_take, Nat.min_eq_left h]
   by_cases h2 : j = p
   · subst h2; rw [if_pos rfl, Nat.sub_self]; rfl
   · rw [if_neg h2, show j - p = (j - p - 1) + 1 by omega, List.getElem?_cons_succ, List.getElem?_drop, show p + (j - p - 1) = j - 1 by omega]
theorem zc_size (n : Nat) : (Builtin.zeroCells (Value.int .i64 0).cells n).size = n := by
 rw [size_zeroCells]; show n * 1 = n; omega
theorem insert_ints (B : Nat) (v : Value) (l : List Int) (p vb : Nat) (x : Int) (w : World) (h : w.ownsRow B 3 1 v l.length (l.map (Value.int .i64))) (hp : p ≤ l.length) (hl : l.length ≤ 1000000) (hB : B ≤ w.heap.size)
    (hvb : w.heap[vb]? = some (.cells #[.int .i64 x] 3 (0, 0))) (hne : v.ownBlock ≠ some vb) :
    Calls Tryz.prog 228 #[v, .int .i64 p, .slice (some ⟨vb, 0, none⟩) 1 1] w fun e w' => ∃ v', e = .returned v' ∧ w'.ownsRow B 3 1 v' (l.length + 1) ((insL l p x).map (Value.int .i64)) ∧ w.grownBy w' v.ownBlock := by
 have hvs : ∀ (j : Nat) u, [Value.int .i64 x][j]? = some u → w.cell? ⟨vb, 0 + j, none⟩ = some u := fun j u hu => by
  match j, hu with
  | 0, hu => rw [Lib.cell_of_heap hvb]; simpa using hu
  | j + 1, hu => simp at hu
 have h1v : ∀ u ∈ [Value.int .i64 x], u.oneCell' = true := fun u hu => by rw [List.mem_singleton.1 hu]; rfl
 have h1c : ∀ u ∈ l.map (Value.int .i64), u.oneCell' = true := fun u hu => by obtain ⟨y, _, rfl⟩ := List.mem_map.1 hu; rfl
 -- a row of its own, made anew
 have fresh : ∀ (W : World) (cap : Nat) (cur : Array Value), W.heap[w.heap.size]? = some (.cells cur 3 (0, 0)) → cur.size = cap → l.length + 1 ≤ cap → cap ≤ maxLen → (∀ j, j < l.length + 1 → cur[j]? = ((insL l p x)[j]?).map (Value.int .i64)) → W.ownsRow B 3 1 (.slice (some ⟨w.heap.size, 0, none⟩) (l.length + 1) cap) (l.length + 1) ((insL l p x).map (Value.int .i64)) := fun W cap cur h1 h2 h3 h4 h5 => (irow_of h1 h2 (insL_len hp) h3 h4 h5).own hB
 have endgrow : ∀ (base : Option Addr) (c : Nat), v = .slice base l.length c → l.length ≤ c → c < l.length + 1 → (base = none → l.length = 0) → (∀ a, base = some a → ∀ (j : Nat) u, (l.map (Value.int .i64))[j]? = some u → w.cell? (a.add j) = some u) → p = l.length →
     Calls Tryz.prog 228 #[v, .int .i64 p, .slice (some ⟨vb, 0, none⟩) 1 1] w fun e w' => ∃ v', e = .returned v' ∧ w'.ownsRow B 3 1 v' (l.length + 1) ((insL l p x).map (Value.int .i64)) ∧ w.grownBy w' v.ownBlock := by
  intro base c hv hc1 hc2 hnil hcs hpe
  subst hpe
  subst hv
  have K : Calls Tryz.prog 228 #[.slice base l.length c, .int .i64 (l.length : Nat), .slice (some ⟨vb, 0, none⟩) 1 1] w fun e w' => e = .returned (.slice (some ⟨w.heap.size, 0, none⟩) (l.length + 1) (grownCap w (l.length + 1) c 3)) ∧ w' = w.drew.alloc (.cells (((l.map (Value.int .i64)) ++ [Value.int .i64 x]).toArray ++ Builtin.zeroCells (Value.int .i64 0).cells (grownCap w (l.length + 1) c 3 - (l.length + 1))) 3) :=
   Any2.slices_Insert_int_end_grow Tryz.lays2_21 base l.length c vb 0 1 1 (l.map (Value.int .i64)) [.int .i64 x] w (by omega) hc1 hc2 (by omega) (by simp) rfl hnil hcs hvs h1v
  refine K.mono ?_
  rintro e w' ⟨rfl, rfl⟩
  have hg1 := grownCap_ge w (l.length + 1) c 3
  have hg2 := grownCap_le_maxLen w (l.length + 1) c 3 (by unfold maxLen; omega)
  refine ⟨_, rfl, fresh _ _ _ (heap_alloc_new w.drew _) ?_ hg1 hg2 (fun j hj => ?_), ⟨rfl, rfl, rfl, by simp, fun k hk _ => Below.heap_alloc w.drew _ k hk⟩⟩
  · rw [Array.size_append, zc_size, List.size_toArray, List.length_append, List.length_map, List.length_singleton]
    omega
  · rw [Array.getElem?_append_left (by rw [List.size_toArray, List.length_append, List.length_map, List.length_singleton]; omega), List.getElem?_toArray, insL_at hp]
    by_cases hj2 : j < l.length
    · rw [if_pos hj2, List.getElem?_append_left (by simpa using hj2), List.getElem?_map]
    · rw [if_neg hj2, if_pos (by omega), List.getElem?_append_right (by simp; omega)]
      rw [List.length_map, show j - l.length = 0 by omega]; rfl
 rcases h.2 with ⟨rfl, h0⟩ | ⟨g, cap, cur, rfl, hBg, hb, h1, h2, h3, h4⟩
 · exact endgrow none 0 (by rw [h0]) (by omega) (by omega) (fun _ => h0) nofun (by omega)
 · have hI : IRow w g l.length cap l := ⟨rfl, ⟨cur, hb, by omega, by simpa using h4⟩, h1, h2⟩
   have hgvb : vb ≠ g := fun e => hne (by rw [e]; rfl)
   have hcs : ∀ (j : Nat) u, (l.map (Value.int .i64))[j]? = some u → w.cell? ⟨g, 0 + j, none⟩ = some u := fun j u hu => by
    rw [List.getElem?_map, Option.map_eq_some_iff] at hu
    obtain ⟨y, hy, rfl⟩ := hu
    rw [Nat.zero_add]; exact hI.cell hy
   have hcz : cur.size = cap := by omega
   have hcur : ∀ j, j < l.length → cur[j]? = (l[j]?).map (Value.int .i64) := fun j hj => by
    have := hI.cell (List.getElem?_eq_getElem hj)
    rw [Lib.cell_of_heap hb] at this
    rw [this, List.getElem?_eq_getElem hj]; rfl
   have hz := zc_size
   by_cases hroom : l.length + 1 ≤ cap
   · have hsp : ∀ j, j < l.length + 1 → (w.cell? ⟨g, 0 + j, none⟩).isSome = true := fun j hj => by
       rw [Lib.cell_of_heap hb, Array.getElem?_eq_getElem (by omega)]; rfl
     have hfz : ∀ j, j < l.length + 1 → w.frozen? ⟨g, 0 + j, none⟩ = false := fun j _ => Lib.frozen_of_heap hb _
     by_cases hpe : p = l.length
     · subst hpe
       refine (Any2.slices_Insert_int_end_room Tryz.lays2_21 g 0 l.length cap vb 0 1 1 [.int .i64 x] w (by omega) hroom (by unfold maxLen at h2; omega) rfl (fun j hj => ?_) (fun j hj => ?_) hvs h1v).mono ?_
       · have := hsp (l.length + j) (by omega)
         rw [Nat.zero_add] at this ⊢; exact this
       · exact Lib.frozen_of_heap hb _
       · rintro e w' ⟨rfl, rfl⟩
         obtain ⟨cur', q1, q2, q3⟩ := setCells_heap g [Value.int .i64 x] (0 + l.length) w cur _ _ hb
         obtain ⟨s1, s2, s3, s4, s5⟩ := setCells_else g [Value.int .i64 x] (0 + l.length) w
         refine ⟨_, rfl, (irow_of q1 (q2.trans hcz) (insL_len hp) hroom h2 (fun j hj => ?_)).own hBg, ⟨s3, s4, s5, by rw [s1]; exact Nat.le_refl _, fun k hk hne => s2 k (fun e => hne (by rw [e]; rfl))⟩⟩
         rw [q3 j (by omega), insL_at hp]
         by_cases hj2 : j < l.length
         · rw [if_pos hj2, if_neg (by omega)]; exact hcur j hj2
         · have e : j = l.length := Nat.le_antisymm (Nat.le_of_lt_succ hj) (Nat.le_of_not_lt hj2)
           rw [if_neg hj2, if_pos e, if_pos (by rw [List.length_singleton]; omega), show j - (0 + l.length) = 0 by omega]; rfl
     · have hlt : p < l.length := by omega
       refine (Any2.slices_Insert_int_shift Tryz.lays2_21 g 0 l.length cap p vb 0 1 1 (l.map (Value.int .i64)) [.int .i64 x] w hlt (by omega) hroom (by unfold maxLen at h2; omega) hgvb (by simp) rfl hcs hsp hfz hvs h1c h1v 3 3 1 cap (by unfold World.shape?; rw [hvb]; rfl) (by unfold World.shape?; rw [hb]; simp [hcz]) (by omega) (Lib.frozen_of_heap hvb _) (Lib.frozen_of_heap hvb _)).mono ?_
       rintro e w' ⟨rfl, rfl⟩
       obtain ⟨cur1, q1, q2, q3⟩ := setCells_heap g ((l.map (Value.int .i64)).drop p) (0 + (p + 1)) w.drew cur _ _ hb
       obtain ⟨s1, s2, s3, s4, s5⟩ := setCells_else g ((l.map (Value.int .i64)).drop p) (0 + (p + 1)) w.drew
       obtain ⟨cur', r1, r2, r3⟩ := setCells_heap g [Value.int .i64 x] (0 + p) _ cur1 _ _ q1
       obtain ⟨u1, u2, u3, u4, u5⟩ := setCells_else g [Value.int .i64 x] (0 + p) (w.drew.setCells g (0 + (p + 1)) ((l.map (Value.int .i64)).drop p))
       refine ⟨_, rfl, (irow_of r1 (r2.trans (q2.trans hcz)) (insL_len hp) hroom h2 (fun j hj => ?_)).own hBg, ⟨u3.trans s3, u4.trans s4, u5.trans s5, by rw [u1, s1]; exact Nat.le_refl _, fun k hk hne => (u2 k (fun e => hne (by rw [e]; rfl))).trans (s2 k (fun e => hne (by rw [e]; rfl)))⟩⟩
       rw [r3 j (by omega), insL_at hp]
       by_cases hj1 : j < p
       · rw [if_pos hj1, if_neg (by omega), q3 j (by omega), if_neg (by omega)]; exact hcur j (by omega)
       · rw [if_neg hj1]
         by_cases hj2 : j = p
         · rw [if_pos hj2, if_pos (by rw [List.length_singleton]; omega), show j - (0 + p) = 0 by omega]; rfl
         · rw [if_neg hj2, if_neg (by rw [List.length_singleton]; omega), q3 j (by omega), if_pos (by rw [List.length_drop, List.length_map]; omega), List.getElem?_drop, List.getElem?_map, show p + (j - (0 + (p + 1))) = j - 1 by omega]
   · by_cases hpe : p = l.length
     · refine endgrow (some ⟨g, 0, none⟩) cap rfl h1 (by omega) nofun (fun a ha j u hu => ?_) hpe
       obtain rfl := Option.some.inj ha
       have := hcs j u hu
       rw [show (⟨g, 0, none⟩ : Addr).add j = ⟨g, 0 + j, none⟩ by unfold Addr.add; split <;> simp_all]
       exact this
     · have hlt : p < l.length := by omega
       have K : Calls Tryz.prog 228 #[.slice (some ⟨g, 0, none⟩) l.length cap, .int .i64 (p : Nat), .slice (some ⟨vb, 0, none⟩) 1 1] w fun e w' => e = .returned (.slice (some ⟨w.heap.size, 0, none⟩) (l.length + 1) (grownCap w (l.length + 1) cap 3)) ∧ w' = (((w.alloc (.cells (((l.map (Value.int .i64)).take p).toArray ++ Builtin.zeroCells (Value.int .i64 0).cells (l.length + 1 - p) ++ Builtin.zeroCells (Value.int .i64 0).cells (grownCap w (l.length + 1) cap 3 - (l.length + 1))) 3)).drew.setCells w.heap.size p [Value.int .i64 x]).drew).setCells w.heap.size (p + 1) ((l.map (Value.int .i64)).drop p) :=
        Any2.slices_Insert_int_grow Tryz.lays2_21 g 0 l.length cap p vb 0 1 1 (l.map (Value.int .i64)) [.int .i64 x] w hlt (by omega) h1 (by omega) (by omega) (by simp) rfl hcs hvs h1c h1v
       refine K.mono ?_
       rintro e w' ⟨rfl, rfl⟩
       have hg1 := grownCap_ge w (l.length + 1) cap 3
       have hg2 := grownCap_le_maxLen w (l.length + 1) cap 3 (by unfold maxLen; omega)
       obtain ⟨C, hC⟩ : ∃ C : Array Value, ((l.map (Value.int .i64)).take p).toArray ++ Builtin.zeroCells (Value.int .i64 0).cells (l.length + 1 - p) ++ Builtin.zeroCells (Value.int .i64 0).cells (grownCap w (l.length + 1) cap 3 - (l.length + 1)) = C := ⟨_, rfl⟩
       have hCz : C.size = grownCap w (l.length + 1) cap 3 := by
        rw [← hC, Array.size_append, Array.size_append, hz, hz]
        simp; omega
       have hCat : ∀ j, j < p → C[j]? = (l[j]?).map (Value.int .i64) := fun j hj => by
        rw [← hC, Array.getElem?_append_left (by rw [Array.size_append, hz]; simp; omega), Array.getElem?_append_left (by simp; omega)]
        rw [List.getElem?_toArray, List.getElem?_take_of_lt hj, List.getElem?_map]
       have hA : ((w.alloc (.cells C 3)).drew).heap[w.heap.size]? = some (.cells C 3 (0, 0)) := heap_alloc_new w _
       show ∃ v', _
       obtain ⟨cur1, q1, q2, q3⟩ := setCells_heap w.heap.size [Value.int .i64 x] p ((w.alloc (.cells C 3)).drew) C _ _ hA
       obtain ⟨s1, s2, s3, s4, s5⟩ := setCells_else w.heap.size [Value.int .i64 x] p ((w.alloc (.cells C 3)).drew)
       have q1' : (((w.alloc (.cells C 3)).drew.setCells w.heap.size p [Value.int .i64 x]).drew).heap[w.heap.size]? = some (.cells cur1 3 (0, 0)) := q1
       obtain ⟨cur', r1, r2, r3⟩ := setCells_heap w.heap.size ((l.map (Value.int .i64)).drop p) (p + 1) _ cur1 _ _ q1'
       obtain ⟨u1, u2, u3, u4, u5⟩ := setCells_else w.heap.size ((l.map (Value.int .i64)).drop p) (p + 1) (((w.alloc (.cells C 3)).drew.setCells w.heap.size p [Value.int .i64 x]).drew)
       refine ⟨_, rfl, ?_, ?_⟩
       · rw [hC]
         refine fresh _ _ cur' r1 (r2.trans (q2.trans hCz)) hg1 hg2 (fun j hj => ?_)
         rw [r3 j (by omega), insL_at hp]
         by_cases hj1 : j < p
         · rw [if_pos hj1, if_neg (by omega), q3 j (by omega), if_neg (by omega)]; exact hCat j hj1
         · rw [if_neg hj1]
           by_cases hj2 : j = p
           · rw [if_pos hj2, if_neg (by omega), q3 j (by omega), if_pos (by rw [List.length_singleton]; omega), show j - p = 0 by omega]; rfl
           · rw [if_neg hj2, if_pos (by rw [List.length_drop, List.length_map]; omega), List.getElem?_drop, List.getElem?_map, show p + (j - (p + 1)) = j - 1 by omega]
       · rw [hC]
         refine ⟨u3.trans s3, u4.trans s4, u5.trans s5, ?_, fun k hk _ => ?_⟩
         · rw [u1]
           show _ ≤ ((w.alloc (.cells C 3)).drew.setCells w.heap.size p [Value.int .i64 x]).heap.size
           rw [s1]
           show _ ≤ (w.alloc (.cells C 3)).heap.size
           simp
         · rw [u2 k (by omega)]
           show ((w.alloc (.cells C 3)).drew.setCells w.heap.size p [Value.int .i64 x]).heap[k]? = _
           rw [s2 k (by omega)]
           exact Below.heap_alloc w _ k hk
end
section
open Go.RowKit
theorem lastIdx_fold (s : ByteArray) : ∀ k, k ≤ s.size → (Go.Lib.lastIdx s 45 k = -1 ∧ (List.range k).foldl (fun l i => if byteAt s i = 45 then i else l) 0 = 0) ∨ Go.Lib.lastIdx s 45 k = ((List.range k).foldl (fun l i => if byteAt s i = 45 then i else l) 0 : Nat)
 | 0, _ => .inl ⟨rfl, rfl⟩
 | k + 1, h => by
   have ih := lastIdx_fold s k (by omega)
   rw [Go.Lib.lastIdx, List.range_succ, List.foldl_append]
   have e : ((s.data[k]!).toNat : Int) = (byteAt s k : Int) := by
    have h' : k < s.data.size := h
    unfold byteAt; rw [Array.getElem?_eq_getElem h', getElem!_pos s.data k h']; rfl
   rw [e]
   simp only [List.foldl_cons, List.foldl_nil]
   by_cases hc : byteAt s k = 45
   · rw [if_pos (by rw [hc]; rfl), if_pos hc]; exact .inr rfl
   · rw [if_neg (by omega), if_neg hc]; exact ih
theorem lastDash_ix (s : ByteArray) : (Go.Lib.lastIndexByte s 45 = -1 ∧ lastDash s = 0) ∨ Go.Lib.lastIndexByte s 45 = (lastDash s : Nat) := lastIdx_fold s s.size (Nat.le_refl _)
theorem lastDash_lt (s : ByteArray) (h : 0 < lastDash s) : lastDash s < s.size := by
 have key : ∀ k, (List.range k).foldl (fun l i => if byteAt s i = 45 then i else l) 0 < k ∨ (List.range k).foldl (fun l i => if byteAt s i = 45 then i else l) 0 = 0 := by
  intro k
  induction k with
  | zero => exact .inr rfl
  | succ k ih =>
    rw [List.range_succ, List.foldl_append]
    simp only [List.foldl_cons, List.foldl_nil]
    split
    · exact .inl (by omega)
    · rcases ih with h | h
      · exact .inl (by omega)
      · exact .inr h
 rcases key s.size with h1 | h1
 · exact h1
 · unfold lastDash at h; omega
theorem findR_at {p : Nat → Bool} {n j : Nat} (hj : j < n) (hp : p j = true) (hl : ∀ i, i < j → p i = false) : (List.range n).find? p = some j := by
 rw [List.find?_range_eq_some]
 exact ⟨hp, by simpa using hj, fun i hi => by rw [hl i hi]; rfl⟩
theorem findR_no {p : Nat → Bool} {n : Nat} (hl : ∀ i, i < n → p i = false) : (List.range n).find? p = none := by
 rw [List.find?_eq_none]
 intro x hx
 rw [hl x (by simpa using hx)]; decide
theorem byteAt_ext0 {B : ByteArray} {g j : Nat} (h : j < g) : byteAt (B.extract 0 g) j = byteAt B j := by
 unfold byteAt
 rw [ByteArray.data_extract, Array.getElem?_extract, Nat.zero_add]
 split
 · rfl
 · rw [Array.getElem?_eq_none (by omega)]
theorem insL_put (l : List Nat) (p n : Nat) : insL (natZ l) p (n : Int) = natZ (putAt l p n) := by
 unfold insL natZ putAt; simp
theorem putAt_len {l : List Nat} {p n : Nat} (h : p ≤ l.length) : (putAt l p n).length = l.length + 1 := by unfold putAt; simp; omega
def atOf (W : World) (X : Nat) : Nat := match W.cell? ⟨X, 1, none⟩ with
 | some (.int _ a) => a.toNat
 | _ => 0
theorem RdrAt.at {w : World} {R : Nat} {s : ByteArray} {a b : Nat} (h : RdrAt w R s a b) : atOf w R = a := by
 unfold atOf; rw [h.c1]; rfl
structure DecAt (s : ByteArray) (X : Nat) (w : World) (Z : Sc (List Nat)) (d : DSt) (lv : Value) (wr : World) : Prop where
 own : wr.ownsRow (X + 1) 3 1 lv d.out.length (intsV d.out)
 rd : RdrAt wr X s d.at_ d.bias
 below : Below X w wr
 le : d.at_ ≤ s.size
 len : d.out.length ≤ 256
 nle : d.n ≤ 1114111
 place : d.place ≤ d.out.length
 bias : d.bias ≤ 10000000000
 dec : decG s d = Z
def DecRel (s : ByteArray) (X : Nat) (w : World) (Z : Sc (List Nat)) (lv nv pv fv : Value) (wr : World) : Prop := ∃ d : DSt, nv = .int .i64 d.n ∧ pv = .int .i64 d.place ∧ fv = .bool d.first ∧ DecAt s X w Z d lv wr
def DecPost (X : Nat) (w : World) (r : Sc (List Nat)) (e : Ending) (w' : World) : Prop := Below X w w' ∧ match r with
 | .ok l => ∃ v, e = .returned (.tuple #[v, .nilIface]) ∧ w'.ownsRow X 3 1 v l.length (intsV l)
 | .no k p => ∃ u, e = .returned (.tuple #[.slice none 0 0, u]) ∧ Er w' u [((k : Int), p)]
def DecMid (s : ByteArray) (X D : Nat) (w : World) (lv : Value) (wr : World) : Prop := wr.ownsRow (X + 1) 3 1 lv D (intsV ((List.range D).map (byteAt s))) ∧ RdrAt wr X s (if 0 < D then D + 1 else 0) 72 ∧ Below X w wr ∧ ∀ i, i < D → byteAt s i < 128
def DecRel1 (s : ByteArray) (D : Nat) (W0 : World) (lv iv : Value) (wr : World) : Prop := ∃ j : Nat, iv = .int .i64 j ∧ j ≤ D ∧ (∀ i, i < j → byteAt s i < 128) ∧ wr.ownsRow W0.heap.size 3 1 lv j (intsV ((List.range j).map (byteAt s))) ∧ Below W0.heap.size W0 wr
theorem decode_any (s : ByteArray) (w : World) (hs : s.size ≤ 1000000) : Calls Tryz.prog 184 #[.string s] w (DecPost w.heap.size w (pdecS s)) := by
 by_cases h1024 : 1024 < s.size
 · have hR : pdecS s = .no 14 1024 := by unfold pdecS; rw [if_pos h1024]
   rw [hR]
   have t1 : decide ((1024 : Int) < (s.size : Int)) = true := dcT (by omega)
   clear hR h1024 hs
   go_enter Tryz.func184, Tryz.ntmps184
   go_wp2_with fail
   go_at_call 44
   refine (fail_any _ _ _).mono ?_
   rintro e w3 ⟨rfl, rfl⟩
   have HF := hid (failed_er (failed_of (w := w) (w0 := w) (k := 14) (i := 1024) (Below.refl _ _) rfl))
   go_wp2
   go_ret2
   exact ⟨HF.out.2, _, rfl, HF.out.1⟩
 · have t1 : decide ((1024 : Int) < (s.size : Int)) = false := dcF (by omega)
   obtain ⟨R, hR⟩ : ∃ R, pdecS s = R := ⟨_, rfl⟩
   obtain ⟨D, hD⟩ : ∃ D, lastDash s = D := ⟨_, rfl⟩
   have hDl : 0 < D → D < s.size := by rw [← hD]; exact lastDash_lt s
   have hDi := lastDash_ix s
   have hRR := hR
   unfold pdecS at hRR
   rw [if_neg h1024] at hRR
   rw [hD] at hDi hRR
   rw [hR]
   obtain ⟨X, hX⟩ : ∃ X, w.heap.size = X := ⟨_, rfl⟩
   obtain ⟨W1, hW1⟩ : ∃ W, w.alloc (.cells #[.string s, .int .i64 0, .int .i64 72] 254) = W := ⟨_, rfl⟩
   have hRd : RdrAt W1 X s 0 72 := by rw [← hW1, ← hX]; exact heap_alloc_new w _
   have hB1 : Below X w W1 := by rw [← hW1, ← hX]; exact ext_alloc (Below.refl _ _) _
   have hz1 : W1.heap.size = X + 1 := by rw [← hW1, ← hX]; simp
   have HRD := hid hRd; have HB1 := hid hB1; have HW1 := hid hW1; have HX := hid hX
   have HRR := hid hRR; have HDL := hid hDl
   have h1024' : s.size ≤ 1024 := by omega
   rw [hX]
   obtain ⟨Z, hZ⟩ : ∃ Z, Go.Lib.lastIndexByte s 45 = Z := ⟨_, rfl⟩
   rw [hZ] at hDi
   have LI : ∀ W, Calls Tryz.prog 106 #[.string s, .int .u8 45] W fun e w' => e = .returned (.int .i64 Z) ∧ w' = W := fun W => by
    rw [← hZ]; exact Tryz.strings_LastIndexByte s 45 (by omega) W
   have LI := hid LI
   have HDI := hid hDi
   clear hR hD hRR hRd hB1 hW1 hX hDl hDi hZ h1024 hs
   go_enter Tryz.func184, Tryz.ntmps184
   go_wp2_with fail
   rw [HX.out, HW1.out]
   refine (LI.out _).mono ?_
   rintro e w1 ⟨rfl, hw1⟩
   have hw1' := hw1.symm
   subst hw1'
   clear t1 hw1 HW1
   obtain ⟨tb, htb⟩ : ∃ tb, decide (0 < D) = tb := ⟨_, rfl⟩
   have htb2 : decide ((0 : Int) < Z) = tb := by rw [← htb]; exact decide_eq_decide.2 (by have := HDI.out; omega)
   have HTB := hid htb
   go_upto_if 24 with (fail)
   clear htb htb2
   go_cut [2] (DecMid s X D w)
   case first =>
    cases tb with
    | false =>
      have hD0 : D = 0 := by have := of_decide_eq_false HTB.out; omega
      have HRL : Hid (DecMid s X D w (.slice none 0 0) W1) := hid ⟨by rw [hD0]; exact World.ownsRow_nil _ _ _ _, by rw [hD0]; exact HRD.out, HB1.out, fun i hi => by omega⟩
      clear hD0
      go_wp2
      go_meet
      exact HRL.out
    | true =>
      have hD0 : 0 < D := of_decide_eq_true HTB.out
      have hZ : Z = (D : Int) := by have := HDI.out; omega
      subst hZ
      have hDs := HDL.out hD0
      obtain ⟨P, hP⟩ : ∃ P, s.extract 0 D = P := ⟨_, rfl⟩
      have sl := sl_to s D (by omega) P hP
      have hPz : P.size = D := by rw [← hP]; simp; omega
      obtain ⟨W0, cap, hcv, hcap, hb0, hz0, hcell⟩ := bytes_of_string P W1
      have HC : Hid (∀ i, i < D → W0.cell? ⟨X + 1, i, none⟩ = some (.int .u8 (byteAt s i))) := hid (fun i hi => by
       have := hcell i (by omega)
       rw [hz1] at this
       rw [this, ← hP, byteAt_ext0 (by omega)])
      rw [hz1] at hz0 hcv
      have hb0' : Below (X + 1) W1 W0 := by rw [← hz1]; exact hb0
      have HB0 := hid hb0'
      rw [hPz] at hcv
      have HR0 : Hid (DecRel1 s D W0 (.slice none 0 0) (.int .i64 0) W0) := hid ⟨0, rfl, by omega, fun i hi => by omega, World.ownsRow_nil _ _ _ _, Below.refl _ _⟩
      have HD0 := hid hD0
      clear hcell hb0 hP hcap hb0' hD0
      go_wp2_with fail
      go_loopw [2, 30] (DecRel1 s D W0) (fun _ i _ => D - (intOf i).toNat)
      case atStart => exact HR0.out
      case round =>
       obtain ⟨j, rfl, hj, hlow, ho, hb⟩ := hrel
       obtain ⟨ao, lcap, rfl, _⟩ := aown_form ho
       have HO := hid ho; have HB := hid hb; have HLOW := hid hlow
       clear hcv hlow sl
       by_cases hlt : j < D
       · obtain ⟨t1, t1'⟩ := ltT j D hlt
         have q1 := inc j (by omega)
         have c0 : wr.cell? ⟨X + 1, j, none⟩ = some (.int .u8 (byteAt s j)) := (bcell1 hb hz0 _).trans (HC.out j hlt)
         have hlt256 := byteAt_lt s j
         obtain ⟨x, hx⟩ : ∃ x, byteAt s j = x := ⟨_, rfl⟩
         rw [hx] at c0 hlt256
         have HXX := hid hx
         have HLT := hid hlt
         clear ho hb hx hlt
         by_cases h128 : 128 ≤ x
         · have t2 : decide ((128 : Int) ≤ (x : Int)) = true := dcT (by omega)
           have t2' : decide (128 ≤ x) = true := dcT h128
           have HR1 : Hid (R = .no 11 (j : Nat)) := hid (by
            have := HRR.out
            rw [findR_at (j := j) HLT.out (by rw [HXX.out]; exact t2') (fun i hi => dcF (by have := HLOW.out i hi; omega))] at this
            exact this.symm)
           clear h128
           go_wp2_with fail
           go_at_call 44
           refine (fail_any _ _ _).mono ?_
           rintro e w3 ⟨rfl, rfl⟩
           have HBX : Hid (Below w.heap.size w wr) := hid (by
            rw [HX.out]
            exact HB1.out.trans ((HB0.out.mono (by omega)).trans (HB.out.mono (by omega))))
           have HF := hid (failed_er (failed_of (w := w) (w0 := wr) (k := 11) (i := j) HBX.out rfl))
           go_wp2
           go_ret2
           rw [HR1.out]
           exact ⟨by rw [← HX.out]; exact HF.out.2, _, rfl, HF.out.1⟩
         · have t2 : decide ((128 : Int) ≤ (x : Int)) = false := dcF (by omega)
           have t2' : decide (128 ≤ x) = false := dcF h128
           have qx : IntKind.i64.wrap (x : Int) = (x : Int) := i64n _ (by omega)
           have hjz : j + 1 ≤ 1000000 := by have := HLT.out; omega
           have H128 := hid h128
           clear h128
           go_wp2_with (at_builtin; refine wpList_app1 wr #[.int .i64 x] 3 rfl _ _ 144 rfl W0.heap.size elInt _ _ _ rfl HO.out rfl rfl ?c1 ?c2 ?c3 ?c4 ?_)
           case c1 => first | rfl | (intro u hu; simp at hu; subst hu; rfl)
           case c2 => unfold maxLen; omega
           case c3 => omega
           case c4 => exact HB.out.size
           intro v2 w2 ho2 hg2
           have hb2 : Below W0.heap.size W0 w2 := (ext_alloc HB.out _).grown hg2 (ext_alloc HB.out _).size (fun k hk => (HO.out.lt k hk).1)
           have e2 : intsV ((List.range j).map (byteAt s)) ++ (#[Value.int .i64 (x : Int)] : Array Value).toList = intsV ((List.range (j + 1)).map (byteAt s)) := by
            rw [List.range_succ, List.map_append, List.map_singleton, HXX.out]; simp [intsV]
           rw [e2] at ho2
           have R1 : DecRel1 s D W0 v2 (.int .i64 ((j : Int) + 1)) w2 := ⟨j + 1, by go_num, HLT.out, fun i hi => by
            by_cases hi2 : i = j
            · rw [hi2, HXX.out]; have := H128.out; omega
            · exact HLOW.out i (by omega), ho2, hb2⟩
           obtain ⟨a2, c2, rfl, _⟩ := aown_form ho2
           have HRL := hid R1
           have hjD := HLT.out
           clear R1 ho2 hg2 hb2 e2
           go_wp2
           refine ⟨?_, by simp [intOf]; omega⟩
           first | exact HRL.out | ((repeat apply Exists.intro); exact ⟨HRL.out, rfl⟩)
       · obtain ⟨t1, t1'⟩ := ltF j D hlt
         obtain rfl : j = D := by omega
         have q1 := inc j (by omega)
         have hRw : RdrAt wr X s 0 72 := by
          have h1 := (hb.block X (by omega)).trans (HB0.out.block X (by omega))
          unfold RdrAt; rw [h1]; exact HRD.out
         have c0 := hRw.c0; have c1 := hRw.c1; have f1 := hRw.fz 1; have hXl := hRw.lt
         have HRL : Hid (DecMid s X j w (.slice ao j lcap) (wr.setCell ⟨X, 1, none⟩ (.int .i64 ((j : Int) + 1)))) := hid ⟨
          aown_ext ho (fun g hg => Below.heap_setCell wr ⟨X, 1, none⟩ _ g (by have := (ho.lt g hg).1; show g ≠ X; omega)) (by omega),
          by rw [if_pos HD0.out]; exact hRw.set1 (j + 1),
          (HB1.out.trans ((HB0.out.mono (by omega)).trans (hb.mono (by omega)))).setCell (p := ⟨X, 1, none⟩) (Nat.le_refl _) _, HLOW.out⟩
         clear ho hb hRw
         go_wp2
         go_meet
         exact HRL.out
   case rest =>
    obtain ⟨ho, hRw, hb, hlow⟩ := hcut
    obtain ⟨ao, lcap, rfl, _⟩ := aown_form ho
    have HO := hid ho; have HRW := hid hRw; have HB := hid hb
    have c0 := hRw.c0; have c1 := hRw.c1; have c2 := hRw.c2; have f1 := hRw.fz 1; have hXl := hRw.lt
    have HR1 : Hid ((if 256 < D then Sc.no 15 ((D + 1 : Nat) : Int) else decG s ⟨if 0 < D then D + 1 else 0, 128, 0, 72, true, (List.range D).map (byteAt s)⟩) = R) := hid (by
     have := HRR.out
     rw [findR_no (fun i hi => dcF (by have := hlow i hi; omega))] at this
     exact this)
    clear ho hRw hb hlow HRR
    by_cases h256 : 256 < D
    · have t1 : decide ((256 : Int) < (D : Int)) = true := dcT (by omega)
      have t1' : decide (256 < D) = true := dcT h256
      have hD0 : 0 < D := by omega
      have HR2 : Hid (R = .no 15 ((D + 1 : Nat) : Int)) := hid (by have := HR1.out; rw [if_pos h256] at this; exact this.symm)
      rw [if_pos hD0] at c1
      clear h256 hD0
      go_wp2_with fail
      go_at_call 44
      refine (fail_any _ _ _).mono ?_
      rintro e w3 ⟨rfl, rfl⟩
      have HBX : Hid (Below w.heap.size w wc) := hid (by rw [HX.out]; exact HB.out)
      have HF := hid (failed_er (failed_of (w := w) (w0 := wc) (k := 15) (i := ((D + 1 : Nat) : Int)) HBX.out rfl))
      go_wp2
      go_ret2
      rw [HR2.out]
      exact ⟨by rw [← HX.out]; exact HF.out.2, _, rfl, HF.out.1⟩
    · have t1 : decide ((256 : Int) < (D : Int)) = false := dcF (by omega)
      have t1' : decide (256 < D) = false := dcF h256
      have HREL : Hid (DecRel s X w R (.slice ao D lcap) (.int .i64 128) (.int .i64 0) (.bool true) wc) := hid (by
       have hr := HR1.out
       rw [if_neg h256] at hr
       refine ⟨_, rfl, rfl, rfl, ⟨?_, HRW.out, HB.out, ?_, ?_, by show 128 ≤ _; omega, Nat.zero_le _, by show 72 ≤ _; omega, hr⟩⟩
       · have := HO.out; simpa using this
       · show (if 0 < D then D + 1 else 0) ≤ _
         split
         · exact HDL.out (by assumption)
         · omega
       · show ((List.range D).map (byteAt s)).length ≤ 256; simp; omega)
      clear h256
      go_wp2_with fail
      clear t1 t1' c0 c1 c2 f1 hXl
      go_loopw [2, 8, 9, 10] (DecRel s X w R) (fun _ _ _ _ W => s.size - atOf W X)
      case atStart => exact HREL.out
      case round =>
       obtain ⟨d, rfl, rfl, rfl, hd⟩ := hrel
       have HDD := hid hd
       obtain ⟨ao, lcap, rfl, _⟩ := aown_form hd.own
       have c0 := hd.rd.c0; have c1 := hd.rd.c1; have c2 := hd.rd.c2; have f1 := hd.rd.fz 1; have f2 := hd.rd.fz 2; have hXl := hd.rd.lt
       have hle := hd.le; have hlen := hd.len; have hnle := hd.nle; have hpl := hd.place; have hbi := hd.bias
       have hr := hd.dec
       have HAT := hid hd.rd.at
       clear hd
       by_cases hlt : d.at_ < s.size
       · obtain ⟨t1, t1'⟩ := ltT d.at_ s.size hlt
         rw [decG_go hlt] at hr
         have RN := hid (rnumber_any X s d.at_ d.bias wr HDD.out.rd hle (by omega) hbi)
         obtain ⟨r, hrn⟩ : ∃ r, rnumS s d.bias d.at_ = r := ⟨_, rfl⟩
         rw [hrn] at RN hr
         have hto := fun x (e : r = .ok x) => rnumF_to s _ _ _ _ _ _ x (hrn.trans e)
         have HRH := hid hr
         have HTO := hid hto
         clear hr hrn hto
         go_wp2_with fail
         refine RN.out.mono ?_
         rintro e w1 ⟨hO, hpost⟩
         cases r with
         | no k p =>
           obtain ⟨u, rfl, hEr⟩ := hpost
           obtain ⟨b, off, u2, rfl, _⟩ := fault_inv hEr
           have HEr := hid hEr
           have HBX : Hid (Below X w w1) := hid (HDD.out.below.trans (hO.below (B := X) (by omega) (fun k hk => by omega)))
           clear hEr hO
           go_wp2_with fail
           go_ret2
           rw [← HRH.out]
           exact ⟨HBX.out, _, rfl, HEr.out⟩
         | ok x =>
           obtain ⟨i, tt⟩ := x
           obtain ⟨rfl, hR1, hi⟩ := hpost
           dsimp only at hR1 hi
           have hto := HTO.out (i, tt) rfl
           dsimp only at hto
           have hto2 := hto.2 hle
           have hrr := HRH.out
           dsimp only at hrr
           have c0' := hR1.c0; have c1' := hR1.c1; have c2' := hR1.c2; have f1' := hR1.fz 1; have f2' := hR1.fz 2; have hXl' := hR1.lt
           obtain ⟨P, hP⟩ : ∃ P, d.place + i = P := ⟨_, rfl⟩
           obtain ⟨M, hM⟩ : ∃ M, d.out.length + 1 = M := ⟨_, rfl⟩
           rw [hP, hM] at hrr
           obtain ⟨q, hq⟩ : ∃ q, P / M = q := ⟨_, rfl⟩
           obtain ⟨m, hm⟩ : ∃ m, P % M = m := ⟨_, rfl⟩
           rw [hq, hm] at hrr
           obtain ⟨n2, hn2⟩ : ∃ n2, d.n + q = n2 := ⟨_, rfl⟩
           rw [hn2] at hrr
           have hqP : q ≤ P := by rw [← hq]; exact Nat.div_le_self _ _
           have hmM : m < M := by rw [← hm]; exact Nat.mod_lt _ (by omega)
           have p1 : IntKind.i64.wrap ((d.place : Int) + (i : Int)) = (P : Int) := by rw [show (d.place : Int) + (i : Int) = (P : Int) by omega]; exact i64n _ (by omega)
           have p2 : IntKind.i64.wrap ((d.out.length : Int) + 1) = (M : Int) := by rw [show (d.out.length : Int) + 1 = (M : Int) by omega]; exact i64n _ (by omega)
           have p3 : ((M : Int) == 0) = false := by simp; omega
           have p3' : ((M : Int) = 0) = False := by simp; omega
           have p3'' : (M = 0) = False := by simp; omega
           have hqi : (P : Int).tdiv (M : Int) = (q : Int) := by rw [← hq]; exact (Int.ofNat_tdiv _ _).symm
           have hmi : (P : Int).tmod (M : Int) = (m : Int) := by rw [← hm]; exact (Int.ofNat_tmod _ _).symm
           have p4 : IntKind.i64.wrap (q : Int) = (q : Int) := i64n _ (by omega)
           have p4' : IntKind.i64.wrap (m : Int) = (m : Int) := i64n _ (by omega)
           have p5 : IntKind.i64.wrap ((d.n : Int) + (q : Int)) = (n2 : Int) := by rw [show (d.n : Int) + (q : Int) = (n2 : Int) by omega]; exact i64n _ (by omega)
           have q1 : IntKind.i64.wrap ((tt : Int) - 1) = (tt : Int) - 1 := i64n _ (by omega)
           have PR := hid (fun W => pright_any (n2 : Int) W)
           have HO1 : Hid (w1.ownsRow (X + 1) 3 1 (.slice ao d.out.length lcap) d.out.length (intsV d.out)) := hid (aown_ext HDD.out.own (fun g hg => by
            have := HDD.out.own.lt g hg
            exact hO.block g this.2 (by omega)) (Nat.le_refl _))
           have HBX : Hid (Below X w w1) := hid (HDD.out.below.trans (hO.below (B := X) (by omega) (fun k hk => by omega)))
           have HRD1 := hid hR1
           have HRR2 := hid hrr
           have HNN : Hid (P = d.place + i ∧ M = d.out.length + 1 ∧ n2 = d.n + q ∧ d.at_ < tt) := hid ⟨by omega, by omega, by omega, hto.1⟩
           obtain ⟨ri, hri⟩ : ∃ ri, rightN (n2 : Int) = ri := ⟨_, rfl⟩
           rw [hri] at PR
           have HRI := hid hri
           clear hrr hR1 hO hto hP hM hq hm hn2 hri c0 c1 c2 f1 f2 hXl
           cases ri with
           | false =>
             have HR3 : Hid (R = .no 16 ((tt : Int) - 1)) := hid (by have := HRR2.out; rw [if_pos HRI.out] at this; exact this.symm)
             go_wp2_with fail
             refine (PR.out _).mono ?_
             rintro e w2 ⟨rfl, hb2⟩
             have hRd2 : RdrAt w2 X s tt d.bias := HRD1.out.below hb2
             have c0 := hRd2.c0; have c1 := hRd2.c1; have f1 := hRd2.fz 1; have hXl := hRd2.lt
             have HB2 : Hid (Below X w w2) := hid (HBX.out.trans (hb2.mono (by omega)))
             clear hb2 hRd2 c0' c1' c2' f1' f2' hXl'
             go_wp2_with fail
             go_at_call 44
             refine (fail_any _ _ _).mono ?_
             rintro e w3 ⟨rfl, rfl⟩
             have HBY : Hid (Below w.heap.size w w2) := hid (by rw [HX.out]; exact HB2.out)
             have HF := hid (failed_er (failed_of (w := w) (w0 := w2) (k := 16) (i := (tt : Int) - 1) HBY.out rfl))
             go_wp2
             go_ret2
             rw [HR3.out]
             exact ⟨by rw [← HX.out]; exact HF.out.2, _, rfl, HF.out.1⟩
           | true =>
             have hn2r := (right_iff _).1 HRI.out
             have hrr2 : (if 256 < M then Sc.no 15 ((tt : Int) - 1) else decG s ⟨tt, n2, m + 1, adaptN i M d.first, false, putAt d.out m n2⟩) = R := by
              have := HRR2.out; rw [if_neg (by rw [HRI.out]; decide)] at this; exact this
             by_cases h256 : 256 < M
             · have HR3 : Hid (R = .no 15 ((tt : Int) - 1)) := hid (by rw [if_pos h256] at hrr2; exact hrr2.symm)
               have t5 : decide ((256 : Int) < (M : Int)) = true := dcT (by omega)
               have t5' : decide (256 < M) = true := dcT h256
               clear hrr2 h256 hn2r
               go_wp2_with fail
               refine (PR.out _).mono ?_
               rintro e w2 ⟨rfl, hb2⟩
               have hRd2 : RdrAt w2 X s tt d.bias := HRD1.out.below hb2
               have c0 := hRd2.c0; have c1 := hRd2.c1; have f1 := hRd2.fz 1; have hXl := hRd2.lt
               have HB2 : Hid (Below X w w2) := hid (HBX.out.trans (hb2.mono (by omega)))
               clear hb2 hRd2 c0' c1' c2' f1' f2' hXl'
               go_wp2_with fail
               go_at_call 44
               refine (fail_any _ _ _).mono ?_
               rintro e w3 ⟨rfl, rfl⟩
               have HBY : Hid (Below w.heap.size w w2) := hid (by rw [HX.out]; exact HB2.out)
               have HF := hid (failed_er (failed_of (w := w) (w0 := w2) (k := 15) (i := (tt : Int) - 1) HBY.out rfl))
               go_wp2
               go_ret2
               rw [HR3.out]
               exact ⟨by rw [← HX.out]; exact HF.out.2, _, rfl, HF.out.1⟩
             · have HR3 := hid (show decG s ⟨tt, n2, m + 1, adaptN i M d.first, false, putAt d.out m n2⟩ = R by rw [if_neg h256] at hrr2; exact hrr2)
               have t5 : decide ((256 : Int) < (M : Int)) = false := dcF (by omega)
               have t5' : decide (256 < M) = false := dcF h256
               have q2 := inc m (by omega)
               have AD := hid (fun W => adapt_any i M d.first W (by omega) (by omega) (by omega))
               have hade := adaptN_le i M d.first
               have H256 := hid h256
               obtain ⟨A, hA⟩ : ∃ A, adaptN i M d.first = A := ⟨_, rfl⟩
               rw [hA] at AD hade HR3
               clear hrr2 h256 hA
               go_wp2_with fail
               refine (PR.out _).mono ?_
               rintro e w2 ⟨rfl, hb2⟩
               have hRd2 : RdrAt w2 X s tt d.bias := HRD1.out.below hb2
               have HB2 : Hid (Below X w w2) := hid (HBX.out.trans (hb2.mono (by omega)))
               have ho2 : w2.ownsRow (X + 1) 3 1 (.slice ao d.out.length lcap) d.out.length (intsV d.out) := aown_ext HO1.out (fun g hg => hb2.block g (HO1.out.lt g hg).2) (Nat.le_refl _)
               have hz2 := hRd2.lt
               obtain ⟨W3, hW3⟩ : ∃ W, w2.alloc (.cells #[.int .i64 n2] 3) = W := ⟨_, rfl⟩
               have ho3 : W3.ownsRow (X + 1) 3 1 (.slice ao d.out.length lcap) d.out.length ((natZ d.out).map (Value.int .i64)) := by rw [← hW3, ← intsV_natZ]; exact ho2.alloc _
               have hz3 : W3.heap.size = w2.heap.size + 1 := by rw [← hW3]; simp
               have hRd3 : RdrAt W3 X s tt d.bias := by rw [← hW3]; exact hRd2.below (ext_alloc (Below.refl _ _) _)
               have HB3 : Hid (Below X w W3) := hid (by rw [← hW3]; exact HB2.out.trans ((ext_alloc (Below.refl _ _) _).mono (by omega)))
               have hvb : W3.heap[w2.heap.size]? = some (.cells #[.int .i64 n2] 3 (0, 0)) := by rw [← hW3]; exact heap_alloc_new w2 _
               have hnl : (natZ d.out).length = d.out.length := by unfold natZ; simp
               rw [← hnl] at ho3
               have INS := insert_ints (X + 1) (.slice ao (natZ d.out).length lcap) (natZ d.out) m w2.heap.size (n2 : Int) W3 ho3 (by have := HNN.out; omega) (by omega) (by omega) hvb (fun e => by have := (ho2.lt w2.heap.size (by rw [← e, hnl])).2; omega)
               rw [hnl] at INS
               have hown3 := ho2.lt
               have INS := hid INS
               have HW3 := hid hW3
               have HRD3 := hid hRd3
               clear hb2 hRd2 c0' c1' c2' f1' f2' hXl' hvb ho3 hW3 ho2 hRd3
               go_wp2_with fail
               rw [HW3.out]
               refine INS.out.mono ?_
               rintro e w4 ⟨v4, rfl, ho4, hg4⟩
               have hRd4 : RdrAt w4 X s tt d.bias := by
                unfold RdrAt
                rw [hg4.block X HRD3.out.lt (fun e => by have := hown3 X e.symm; omega)]
                exact HRD3.out
               have HB4 : Hid (Below X w w4) := hid (HB3.out.grown hg4 (by omega) (fun k hk => by have := hown3 k hk; omega))
               rw [insL_put, ← intsV_natZ] at ho4
               obtain ⟨a4, c4, rfl, _⟩ := aown_form ho4
               have HO4 := hid ho4; have HRD4 := hid hRd4
               have c0 := hRd4.c0; have c1 := hRd4.c1; have c2 := hRd4.c2; have f2 := hRd4.fz 2; have hXl := hRd4.lt
               clear ho4 hRd4 hg4 hown3
               go_wp2_with fail
               refine (AD.out _).mono ?_
               rintro e w5 ⟨rfl, hw5⟩
               have hw5' := hw5.symm
               subst hw5'
               have HRL : Hid (DecRel s X w R (.slice a4 (d.out.length + 1) c4) (.int .i64 n2) (.int .i64 ((m : Int) + 1)) (.bool false) (w4.setCell ⟨X, 2, none⟩ (.int .i64 A))) := hid (by
                have hnn := HNN.out
                have hpz : (putAt d.out m n2).length = d.out.length + 1 := putAt_len (by omega)
                refine ⟨⟨tt, n2, m + 1, A, false, putAt d.out m n2⟩, rfl, by go_num, rfl, ⟨?_, HRD4.out.set2 A, HB4.out.setCell (p := ⟨X, 2, none⟩) (Nat.le_refl _) _, hto2, by show (putAt d.out m n2).length ≤ 256; have := H256.out; omega, by show n2 ≤ _; omega, by show m + 1 ≤ (putAt d.out m n2).length; omega, by show A ≤ _; omega, HR3.out⟩⟩
                show (w4.setCell _ _).ownsRow _ _ _ _ (putAt d.out m n2).length _
                rw [hpz]
                exact aown_ext HO4.out (fun g hg => Below.heap_setCell w4 ⟨X, 2, none⟩ _ g (by have := (HO4.out.lt g hg).1; show g ≠ X; omega)) (Nat.le_refl _))
               have HLS : Hid (s.size - atOf (w4.setCell ⟨X, 2, none⟩ (.int .i64 A)) X < s.size - atOf wr X) := hid (by
                rw [HAT.out, (HRD4.out.set2 A).at]; have := HNN.out; omega)
               go_wp2
               refine ⟨?_, HLS.out⟩
               first | exact HRL.out | ((repeat apply Exists.intro); exact ⟨HRL.out, rfl⟩)
       · obtain ⟨t1, t1'⟩ := ltF d.at_ s.size hlt
         rw [decG_end (by omega)] at hr
         have HRH := hid hr
         clear hr hlt
         go_wp2_with fail
         go_ret2
         rw [← HRH.out]
         exact ⟨HDD.out.below, _, rfl, aown_ext HDD.out.own (fun _ _ => rfl) (by omega)⟩
end
end Go.Proofs.YtbeodjipdpcaiaaGreatDoor
