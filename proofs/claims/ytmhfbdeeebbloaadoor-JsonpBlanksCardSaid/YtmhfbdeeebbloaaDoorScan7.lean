/- scan.Next: the walk. -/
import Derived.Test.YtmhfbdeeebbloaaDoorScan6
namespace Go.Proofs.YtmhfbdeeebbloaaDoor
open Go.RowKit
def tokV (t : Tok) : Value := .agg #[.int .i64 t.kind, .int .i64 t.fr, .int .i64 t.to]
def NxPost (w : World) (r : Sc Tok) (e : Ending) (w' : World) : Prop := match r with
  | .ok t => e = .returned (.tuple #[tokV t, .nilIface]) ∧ Below w.heap.size w w'
  | .no k i => ∃ u, e = .returned (.tuple #[.agg #[.int .i64 0, .int .i64 0, .int .i64 0], .iface 119 (.pointer (some u))]) ∧ Failed w k i (.iface 119 (.pointer (some u))) w'
def blanksL : List Nat := [32, 9, 10, 13]
def BlRel (B : ByteArray) (e : Nat) (W : World) (k : Value) (wr : World) : Prop := wr = W ∧ ∃ j : Nat, k = .int .i64 j ∧ j ≤ e ∧ skip isBlank B j = e
theorem below_box {w w1 : World} (h : Below w.heap.size w w1) (a b c : Value) : Below w.heap.size w (((w1.setCell ⟨w.heap.size, 0, none⟩ a).setCell ⟨w.heap.size, 1, none⟩ b).setCell ⟨w.heap.size, 2, none⟩ c) :=
  ((h.setCell (Nat.le_refl _) a).setCell (Nat.le_refl _) b).setCell (Nat.le_refl _) c
theorem failed_box {w w1 : World} {o : Obj} {k : Nat} {i : Int} {u : Value} (h : Failed (w.alloc o) k i u w1) (a b c : Value) : Failed w k i u (((w1.setCell ⟨w.heap.size, 0, none⟩ a).setCell ⟨w.heap.size, 1, none⟩ b).setCell ⟨w.heap.size, 2, none⟩ c) :=
  ⟨h.1.res (Below.refl _ _) (OnlyB.set (OnlyB.set (OnlyB.set (OnlyB.refl _ _)))), below_box (ext_trans (ext_alloc (Below.refl _ _) o) h.2) a b c⟩
set_option maxRecDepth 100000 in
set_option maxHeartbeats 16000000 in
theorem next_any (v : Value) (B : ByteArray) (at_ : Int) (w : World) (h : Rd (Own w) w v (bytesDB B)) (he : ScEnv w) (hm : B.size ≤ 1000000) :
    Calls Tryd.prog 53 #[v, .int .i64 at_] w (NxPost w (nextI B at_)) := by
  unfold nextI
  by_cases hout : at_ < 0 ∨ (B.size : Int) < at_
  · rw [if_pos hout]
    obtain ⟨a, c, rfl, _, _, _⟩ := h.by_inv
    have q : decide (at_ < 0) = true ∨ (decide (at_ < 0) = false ∧ decide ((B.size : Int) < at_) = true) := by
      by_cases h1 : at_ < 0
      · exact .inl (decide_eq_true h1)
      · exact .inr ⟨decide_eq_false h1, decide_eq_true (hout.resolve_left h1)⟩
    clear h he hout
    rcases q with q1 | ⟨q1, q2⟩
    all_goals
      go_enter Tryd.func53, Tryd.ntmps53
      go_wp2_with fail
      refine (fails 1 at_ _).mono ?_
      rintro e w1 ⟨u, rfl, hx⟩
      obtain ⟨p, rfl⟩ := hx.form
      have hcb := bcell1 hx.2 (b := w.heap.size) (by simp)
      have hcf := bfrozen1 hx.2 (b := w.heap.size) (by simp)
      have hz := hx.2.size
      simp only [World.size_alloc] at hz
      have HX := Lib.hid hx
      clear hx
      go_wp2
      refine bodyPost_ret (v := .tuple #[.agg #[.int .i64 0, .int .i64 0, .int .i64 0], .iface 119 (.pointer (some p))]) (by simp [results, Tryd.results53, go_sem, hcb]) rfl ⟨_, rfl, ?_⟩
      exact failed_box HX.out _ _ _
  · rw [if_neg hout]
    obtain ⟨i, rfl⟩ := Int.eq_ofNat_of_zero_le (show 0 ≤ at_ by omega)
    rw [Int.toNat_natCast]
    have hi : i ≤ B.size := by omega
    have hr0 := h.ext (ext_alloc (Below.refl _ _) (.cells #[.int .i64 0, .int .i64 0, .int .i64 0] 47))
    have he0 := he.ext (ext_alloc (Below.refl _ _) (.cells #[.int .i64 0, .int .i64 0, .int .i64 0] 47))
    obtain ⟨a, c, rfl, _, _, hc⟩ := h.by_inv
    obtain ⟨W0, hW0⟩ : ∃ W, w.alloc (.cells #[.int .i64 0, .int .i64 0, .int .i64 0] 47) = W := ⟨_, rfl⟩
    have hb0 : Below w.heap.size w W0 := by rw [← hW0]; exact ext_alloc (Below.refl _ _) _
    have hcell0 : ∀ o, W0.cell? ⟨w.heap.size, o, none⟩ = #[Value.int .i64 0, .int .i64 0, .int .i64 0][o]? := fun o => by rw [← hW0]; simp
    have hfr0 : ∀ o, W0.frozen? ⟨w.heap.size, o, none⟩ = false := fun o => by rw [← hW0]; simp
    have hz0 : w.heap.size < W0.heap.size := by rw [← hW0]; simp
    rw [hW0] at hr0 he0
    have HR0 := Lib.hid hr0; have HE0 := Lib.hid he0; have HB0 := Lib.hid hb0; have HC0 := Lib.hid hcell0; have HF0 := Lib.hid hfr0
    have HW0 := Lib.hid hW0
    unfold nextS
    have hge := skip_ge isBlank B i
    have hle := skip_le isBlank B i hi
    have hE := skip_end isBlank B _ i rfl
    generalize hes : skip isBlank B i = e at *
    have HES := Lib.hid hes; have HEN := Lib.hid hE
    have t1 : decide ((i : Int) < 0) = false := decide_eq_false (by omega)
    have t2 : decide (B.size < i) = false := decide_eq_false (by omega)
    clear h he hout hc hr0 he0 hb0 hcell0 hfr0 hE hes
    go_enter Tryd.func53, Tryd.ntmps53
    go_wp2_with fail
    go_loopw [1] (BlRel B e W0) (fun k _ => B.size - (intOf k).toNat)
    case atStart => exact ⟨rfl, i, rfl, hge, HES.out⟩
    case round =>
      obtain ⟨rfl, j, rfl, hj, hs⟩ := hrel
      clear hW0
      by_cases hlt : j < e
      · have hd : isBlank (byteAt B j) = true := by
          cases hx : isBlank (byteAt B j) with
          | true => rfl
          | false => rw [skip_stop (fun _ => hx)] at hs; omega
        rw [skip_go (by omega) hd] at hs
        obtain ⟨a', c', e1, _, _, hc⟩ := HR0.out.by_inv
        cases e1
        obtain ⟨b, off, rfl, _, x0⟩ := hc (by omega)
        have x1 := x0 j (by omega)
        have t3 : decide ((j : Int) < (B.size : Int)) = true := decide_eq_true (by omega)
        have CI := Lib.hid (fun s hl => ib_any s blanksL hl (byteAt B j) (byteAt_lt B j) wr)
        have hib := ibV_in (l := blanksL) (c := byteAt B j)
        rw [show blanksL.contains (byteAt B j) = true from hd] at hib
        generalize ibV blanksL (byteAt B j) = x at *
        have R : BlRel B e wr (.int .i64 (j + 1)) wr := ⟨rfl, j + 1, by go_num, by omega, hs⟩
        have HR := Lib.hid R
        have hje : j < B.size := by omega
        clear R hs hd x0 hc
        go_wp2_with fail
        refine (CI.out _ (by rfl)).mono ?_
        rintro ev w1 ⟨rfl, rfl⟩
        go_wp2
        refine ⟨?_, by simp [intOf] <;> omega⟩
        have R := HR.out
        first | exact R | ((repeat apply Exists.intro); exact ⟨R, rfl⟩)
      · obtain rfl : j = e := by omega
        have CT := Lib.hid (token_any _ B j wr HR0.out HE0.out hm hle)
        have hcb0 := HC0.out; have hcf0 := HF0.out
        have hzz := HB0.out.size
        clear hs
        by_cases hsz : j < B.size
        · have hd := HEN.out hsz
          obtain ⟨a', c', e1, _, _, hc⟩ := HR0.out.by_inv
          cases e1
          obtain ⟨b, off, rfl, _, x0⟩ := hc (by omega)
          have x1 := x0 j (by omega)
          have t3 : decide ((j : Int) < (B.size : Int)) = true := decide_eq_true (by omega)
          have CI := Lib.hid (fun s hl => ib_any s blanksL hl (byteAt B j) (byteAt_lt B j) wr)
          have hib := ibV_in (l := blanksL) (c := byteAt B j)
          rw [show blanksL.contains (byteAt B j) = false from hd] at hib
          generalize ibV blanksL (byteAt B j) = x at *
          clear hd x0 hc
          go_wp2_with fail
          refine (CI.out _ (by rfl)).mono ?_
          rintro ev w1 ⟨rfl, rfl⟩
          go_wp2_with fail
          refine CT.out.mono ?_
          intro ev w1 hsc
          cases hr : tokenS B j with
          | ok x =>
            rw [hr] at hsc
            obtain ⟨rfl, hb⟩ := hsc
            have hcb := bcell1 hb (b := w.heap.size) (by omega)
            have hcf := bfrozen1 hb (b := w.heap.size) (by omega)
            have hz := hb.size
            have HB := Lib.hid (ext_trans HB0.out hb); have HQ := Lib.hid hr; clear hb hr
            go_wp2
            rw [HQ.out]
            refine bodyPost_ret (v := .tuple #[.agg #[.int .i64 x.1, .int .i64 j, .int .i64 x.2], .nilIface]) (by simp [results, Tryd.results53, go_sem, hcb, hcb0]) rfl ⟨rfl, ?_⟩
            exact below_box HB.out _ _ _
          | no k p =>
            rw [hr] at hsc
            obtain ⟨u, a1, a2, rfl, hf⟩ := hsc
            have hcb := bcell1 hf.2 (b := w.heap.size) (by omega)
            have hcf := bfrozen1 hf.2 (b := w.heap.size) (by omega)
            have hz := hf.2.size
            have HQ := Lib.hid hr
            have HX := hf
            rw [← HW0.out] at HX
            have HX := Lib.hid HX
            clear hf hr
            go_wp2
            rw [HQ.out]
            refine bodyPost_ret (v := .tuple #[.agg #[.int .i64 0, .int .i64 0, .int .i64 0], .iface 119 (.pointer (some u))]) (by simp [results, Tryd.results53, go_sem, hcb, hcb0]) rfl ⟨_, rfl, ?_⟩
            exact failed_box HX.out _ _ _
        · have t3 : decide ((j : Int) < (B.size : Int)) = false := decide_eq_false (by omega)
          go_wp2_with fail
          refine CT.out.mono ?_
          intro ev w1 hsc
          cases hr : tokenS B j with
          | ok x =>
            rw [hr] at hsc
            obtain ⟨rfl, hb⟩ := hsc
            have hcb := bcell1 hb (b := w.heap.size) (by omega)
            have hcf := bfrozen1 hb (b := w.heap.size) (by omega)
            have hz := hb.size
            have HB := Lib.hid (ext_trans HB0.out hb); have HQ := Lib.hid hr; clear hb hr
            go_wp2
            rw [HQ.out]
            refine bodyPost_ret (v := .tuple #[.agg #[.int .i64 x.1, .int .i64 j, .int .i64 x.2], .nilIface]) (by simp [results, Tryd.results53, go_sem, hcb, hcb0]) rfl ⟨rfl, ?_⟩
            exact below_box HB.out _ _ _
          | no k p =>
            rw [hr] at hsc
            obtain ⟨u, a1, a2, rfl, hf⟩ := hsc
            have hcb := bcell1 hf.2 (b := w.heap.size) (by omega)
            have hcf := bfrozen1 hf.2 (b := w.heap.size) (by omega)
            have hz := hf.2.size
            have HQ := Lib.hid hr
            have HX := hf
            rw [← HW0.out] at HX
            have HX := Lib.hid HX
            clear hf hr
            go_wp2
            rw [HQ.out]
            refine bodyPost_ret (v := .tuple #[.agg #[.int .i64 0, .int .i64 0, .int .i64 0], .iface 119 (.pointer (some u))]) (by simp [results, Tryd.results53, go_sem, hcb, hcb0]) rfl ⟨_, rfl, ?_⟩
            exact failed_box HX.out _ _ _
end Go.Proofs.YtmhfbdeeebbloaaDoor
