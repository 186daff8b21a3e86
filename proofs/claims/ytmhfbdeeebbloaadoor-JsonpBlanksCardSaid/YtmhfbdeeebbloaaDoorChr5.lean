
/- The document's characters (ref01): Next, the walk. -/
import Derived.Test.YtmhfbdeeebbloaaDoorChr4
-- @auto
import Derived.Deep.RegionHeld3
namespace Go.Proofs.YtmhfbdeeebbloaaDoor
open Go.RowKit
def NcRel (B : ByteArray) (a : Nat) (w : World) (i : Value) (wr : World) : Prop := ∃ k : Nat, i = .int .i64 k ∧ 1 ≤ k ∧ k ≤ 5 ∧ (∀ m, 1 ≤ m → m < k → a + m ≤ B.size → hitB B a m = false) ∧ Below w.heap.size w wr
set_option maxRecDepth 100000 in
set_option maxHeartbeats 16000000 in
theorem rnext_any (v : Value) (B : ByteArray) (a : Nat) (w : World) (hB : Rd (Own w) w v (bytesDB B)) (hz : B.size ≤ 1000000) (ha : a < B.size) :
    Calls Tryd.prog 52 #[v, .int .i64 a] w fun e w' => e = .returned (.tuple #[.int .i64 (nxN B a).1, .int .i64 (nxN B a).2]) ∧ Below w.heap.size w w' := by
  have HB := Lib.hid (fun W (hO : Below w.heap.size w W) => hB.ext hO)
  obtain ⟨av, c, rfl, _, hac, hcc⟩ := hB.by_inv
  obtain ⟨b, off, rfl, hSb, hx⟩ := hcc (by omega)
  have HX := Lib.hid hx
  have hSb' : b < w.heap.size := hSb
  clear hB hcc hx
  go_enter Tryd.func52, Tryd.ntmps52
  go_wp2_with fail
  go_loopw [6] (NcRel B a w) (fun i _ => 5 - (intOf i).toNat)
  case atStart => exact ⟨1, rfl, by decide, by decide, fun m h1 h2 => by omega, Below.refl _ _⟩
  case round =>
    obtain ⟨k, rfl, hk1, hk5, hn, hb⟩ := hrel
    have HN := Lib.hid hn; have HBW := Lib.hid hb
    have hzr := hb.size
    clear hn hb
    by_cases hk4 : k ≤ 4
    · have t1 : decide (k ≤ 4) = true := decide_eq_true hk4
      have t1' : decide ((k : Int) ≤ 4) = true := decide_eq_true (by omega)
      have q1 : IntKind.i64.wrap ((a : Int) + (k : Int)) = (a : Int) + (k : Int) := IntWalk.i64_in _ (by omega)
      by_cases hk : a + k ≤ B.size
      · have t2 : decide ((a : Int) + (k : Int) ≤ (B.size : Int)) = true := decide_eq_true (by omega)
        have HG := rguess_any _ _ B a k wr (HB.out wr HBW.out) hz ⟨hk1, hk4⟩ hk
        have hg := gN_small B a (k) (k - 1) (by omega)
        have hh : hitB B a k = (rightN (gN B a k (k - 1)) && (putN (gN B a k (k - 1)).toNat == [byteAt B a, byteAt B (a + 1), byteAt B (a + 2), byteAt B (a + 3)].take k)) := by
          rw [gN_guess B a k hk1 hk4]; rfl
        have hhit : ∀ n : Nat, gN B a k (k - 1) = (n : Int) → hitB B a k = true → nxN B a = (n, k) := fun n h1 h2 => nx_hit ha hk1 hk4 hk h2 h1
        have step : hitB B a k = false → ∀ W, Below w.heap.size w W → NcRel B a w (.int .i64 (k + 1)) W := fun hf W hW => ⟨k + 1, by go_num, by omega, by omega, fun m h1 h2 h3 => by
          by_cases e : m = k
          · subst e; exact hf
          · exact HN.out m h1 (by omega) h3, hW⟩
        generalize gN B a k (k - 1) = g at *
        have HGG := Lib.hid HG
        clear HG
        have HRI := Lib.hid (fun W => rright_any g W)
        cases hr : rightN g with
        | false =>
          rw [hr, Bool.false_and] at hh
          have HST := Lib.hid (step hh)
          rw [hr] at HRI
          clear hh hhit step hr hg
          go_wp2_with fail
          refine HGG.out.mono ?_
          rintro e w1 ⟨rfl, rfl⟩
          go_wp2
          go_quiet ((go_at_call 83; exact quiet_eq (HRI.out _)))
          go_wp2
          refine ⟨?_, by simp [intOf] <;> omega⟩
          have R := fun m => HST.out (wr.drewN m) (ext_drewN m HBW.out)
          first | exact R _ | ((repeat apply Exists.intro); exact ⟨R _, rfl⟩)
        | true =>
          rw [hr, Bool.true_and] at hh
          obtain ⟨n, rfl, hn⟩ : ∃ n : Nat, g = (n : Int) ∧ n < 1114112 := by
            have := (right_iff g).1 hr
            exact ⟨g.toNat, by omega, by omega⟩
          rw [Int.toNat_natCast] at hh
          have hps := put_sub hn B a k hk4 hk
          rw [← hh] at hps
          rw [hr] at HRI
          have HP := fun W => rput_any n hn W
          obtain ⟨C, hC⟩ : ∃ C, C = Obj.cells (putV n) 5 (0, 0) := ⟨_, rfl⟩
          have hpc := put_cells hn wr
          have hpl := putB_size n
          rw [← hC] at hpc
          have HP' : ∀ W, Calls Tryd.prog 84 #[.int .i64 n] W fun e w' => e = .returned (.slice (some ⟨W.heap.size, 0, none⟩) (putN n).length (putN n).length) ∧ w' = W.alloc C := by rw [hC]; exact HP
          generalize (putN n).length = L at hpc hpl HP'
          generalize putB n = P1 at *
          have cvA := bytes_back (wr.alloc C).drew wr.heap.size 0 L L P1 hpl (fun j hj => hpc j hj)
          obtain ⟨a', c', e1, _, _, hc⟩ := (HB.out wr HBW.out).by_inv
          cases e1
          obtain ⟨b', off', e2, _, x0⟩ := hc (by omega)
          cases e2
          have cvB := bytes_back wr.drew b (off + a) k (c - a) (subB B a k) (subB_size B a k hk) (fun j hj => by
            rw [subB_at B a k j hj, Nat.add_assoc]; exact x0 (a + j) (by omega))
          have cvB2 := bytes_back (wr.alloc C).drew b (off + a) k (c - a) (subB B a k) (subB_size B a k hk) (fun j hj => by
            rw [subB_at B a k j hj, Nat.add_assoc]; exact cell_alloc C (x0 (a + j) (by omega)))
          generalize subB B a k = P2 at *
          have HPP := Lib.hid HP'
          have HW1 := Lib.hid (fun hf => step hf (wr.alloc C).drew (ext_drewN 1 (ext_alloc HBW.out C)))
          have HHI := Lib.hid (hhit n rfl)
          have q5 : (a : Int) + (k : Int) ≤ (c : Int) := by omega
          have q6 : a + k ≤ c := by omega
          have q7 : (a : Int) ≤ (a : Int) + (k : Int) := by omega
          have q8 : ((a : Int) + (k : Int)).toNat = a + k := by omega
          clear hh hhit step hr hg HP hC hpc hpl HP' hc x0 hn
          have hbd : Below w.heap.size w (wr.alloc C).drew := ext_drewN 1 (ext_alloc HBW.out C)
          have HBD := Lib.hid hbd
          clear hbd
          have q9 : ¬ c = a := by omega
          obtain ⟨hv, hhv⟩ : ∃ x, hitB B a k = x := ⟨_, rfl⟩
          rw [hhv] at hps
          have HHV := Lib.hid hhv
          clear hhv
          go_wp2_with fail
          refine HGG.out.mono ?_
          rintro e w1 ⟨rfl, rfl⟩
          go_wp2_with fail
          refine wp_region_noPanic ?_
          refine wp_region_held_drew (S := fun W => (convert 26 9 (.slice (some ⟨b, off + a, none⟩) k (c - a))).run Tryd.prog W = .ok (.string P2) W) (by kernel_rfl) cvB (fun hHeld => ?_)
          refine wpAnyH_take (i := 0) (oi := _) (v := .int .i64 n) rfl (by kernel_rfl) (by kernel_rfl) (by kernel_rfl) (fun _ _ _ h => h) (Or.inl ⟨by rfl, ?_⟩) hHeld ?_
          · intro w hSw; go_simp
          try simp only [Act.put, List.setIfInBounds_toArray, List.set_cons_zero, List.set_cons_succ, List.getElem_toArray, List.getElem_cons_zero]
          refine wpAnyH_ready (rs := [1]) (by kernel_rfl) (by simp) ?_
          refine AllReadyH.cons (o := _) rfl (fun K hK => ?_) AllReadyH.nil
          go_simp
          refine (HRI.out _).mono ?_; rintro e w' ⟨rfl, rfl⟩
          go_wp2_with fail
          refine hK.out _ _ cvB (fun hHeld => ?_)
          clear hK K
          try simp only [Act.put, List.setIfInBounds_toArray, List.set_cons_zero, List.set_cons_succ, List.getElem_toArray, List.getElem_cons_zero, List.getElem_cons_succ]
          refine wpAnyH_take (i := 2) (oi := _) (v := .bool true) rfl (by kernel_rfl) (by kernel_rfl) (by kernel_rfl) (fun _ _ _ h => h) (Or.inl ⟨by rfl, ?_⟩) hHeld ?_
          · intro w hSw; go_simp
          try simp only [Act.put, List.setIfInBounds_toArray, List.set_cons_zero, List.set_cons_succ, List.getElem_toArray, List.getElem_cons_zero, List.getElem_cons_succ]
          refine wpAnyH_take (i := 3) (oi := _) (v := .int .i64 n) rfl (by kernel_rfl) (by kernel_rfl) (by kernel_rfl) (fun _ _ _ h => h) (Or.inl ⟨by rfl, ?_⟩) hHeld ?_
          · intro w hSw; go_simp
          try simp only [Act.put, List.setIfInBounds_toArray, List.set_cons_zero, List.set_cons_succ, List.getElem_toArray, List.getElem_cons_zero, List.getElem_cons_succ]
          refine wpAnyH_take (i := 6) (oi := _) (v := .slice (some ⟨b, off, none⟩) B.size c) rfl (by kernel_rfl) (by kernel_rfl) (by kernel_rfl) (fun _ _ _ h => h) (Or.inl ⟨by rfl, ?_⟩) hHeld ?_
          · intro w hSw; go_simp
          try simp only [Act.put, List.setIfInBounds_toArray, List.set_cons_zero, List.set_cons_succ, List.getElem_toArray, List.getElem_cons_zero, List.getElem_cons_succ]
          refine wpAnyH_take (i := 7) (oi := _) (v := .int .i64 a) rfl (by kernel_rfl) (by kernel_rfl) (by kernel_rfl) (fun _ _ _ h => h) (Or.inl ⟨by rfl, ?_⟩) hHeld ?_
          · intro w hSw; go_simp
          try simp only [Act.put, List.setIfInBounds_toArray, List.set_cons_zero, List.set_cons_succ, List.getElem_toArray, List.getElem_cons_zero, List.getElem_cons_succ]
          refine wpAnyH_take (i := 8) (oi := _) (v := .int .i64 a) rfl (by kernel_rfl) (by kernel_rfl) (by kernel_rfl) (fun _ _ _ h => h) (Or.inl ⟨by rfl, ?_⟩) hHeld ?_
          · intro w hSw; go_simp
          try simp only [Act.put, List.setIfInBounds_toArray, List.set_cons_zero, List.set_cons_succ, List.getElem_toArray, List.getElem_cons_zero, List.getElem_cons_succ]
          refine wpAnyH_take (i := 9) (oi := _) (v := .int .i64 k) rfl (by kernel_rfl) (by kernel_rfl) (by kernel_rfl) (fun _ _ _ h => h) (Or.inl ⟨by rfl, ?_⟩) hHeld ?_
          · intro w hSw; go_simp
          try simp only [Act.put, List.setIfInBounds_toArray, List.set_cons_zero, List.set_cons_succ, List.getElem_toArray, List.getElem_cons_zero, List.getElem_cons_succ]
          refine wpAnyH_take (i := 10) (oi := _) (v := .int .i64 ((a : Int) + (k : Int))) rfl (by kernel_rfl) (by kernel_rfl) (by kernel_rfl) (fun _ _ _ h => h) (Or.inl ⟨by rfl, ?_⟩) hHeld ?_
          · intro w hSw; go_simp
          try simp only [Act.put, List.setIfInBounds_toArray, List.set_cons_zero, List.set_cons_succ, List.getElem_toArray, List.getElem_cons_zero, List.getElem_cons_succ]
          refine wpAnyH_take (i := 11) (oi := _) (v := .slice (some ⟨b, off + a, none⟩) k (c - a)) rfl (by kernel_rfl) (by kernel_rfl) (by kernel_rfl) (fun _ _ _ h => h) (Or.inl ⟨by rfl, ?_⟩) hHeld ?_
          · intro w hSw; go_simp
          try simp only [Act.put, List.setIfInBounds_toArray, List.set_cons_zero, List.set_cons_succ, List.getElem_toArray, List.getElem_cons_zero, List.getElem_cons_succ]
          refine wpAnyH_take (i := 12) (oi := _) (v := .string P2) rfl (by kernel_rfl) (by kernel_rfl) (by kernel_rfl) (fun _ _ _ h => h) (Or.inl ⟨by rfl, ?_⟩) hHeld ?_
          · intro w hSw; go_simp
          try simp only [Act.put, List.setIfInBounds_toArray, List.set_cons_zero, List.set_cons_succ, List.getElem_toArray, List.getElem_cons_zero, List.getElem_cons_succ]
          refine wpAnyH_ready (rs := [4]) (by kernel_rfl) (by simp) ?_
          refine AllReadyH.cons (o := _) rfl (fun K hK => ?_) AllReadyH.nil
          go_simp
          refine (HPP.out _).mono ?_; rintro e w' ⟨rfl, rfl⟩
          go_wp2_with fail
          refine hK.out _ _ cvB2 (fun hHeld => ?_)
          clear hK K
          try simp only [Act.put, List.setIfInBounds_toArray, List.set_cons_zero, List.set_cons_succ, List.getElem_toArray, List.getElem_cons_zero, List.getElem_cons_succ]
          refine wpAnyH_ready (rs := [5]) (by kernel_rfl) (by simp) ?_
          refine AllReadyH.cons (o := _) rfl (fun K hK => ?_) AllReadyH.nil
          go_simp
          refine hK.out _ _ cvB2 (fun hHeld => ?_)
          clear hK K
          try simp only [Act.put, List.setIfInBounds_toArray, List.set_cons_zero, List.set_cons_succ, List.getElem_toArray, List.getElem_cons_zero, List.getElem_cons_succ]
          refine wpAnyH_take (i := 13) (oi := _) (v := .bool hv) rfl (by kernel_rfl) (by kernel_rfl) (by kernel_rfl) (fun _ _ _ h => h) (Or.inl ⟨by rfl, ?_⟩) hHeld ?_
          · intro w hSw; go_simp
          try simp only [Act.put, List.setIfInBounds_toArray, List.set_cons_zero, List.set_cons_succ, List.getElem_toArray, List.getElem_cons_zero, List.getElem_cons_succ]
          refine wpAnyH_take (i := 14) (oi := _) (v := .bool hv) rfl (by kernel_rfl) (by kernel_rfl) (by kernel_rfl) (fun _ _ _ h => h) (Or.inl ⟨by rfl, ?_⟩) hHeld ?_
          · intro w hSw; go_simp
          try simp only [Act.put, List.setIfInBounds_toArray, List.set_cons_zero, List.set_cons_succ, List.getElem_toArray, List.getElem_cons_zero, List.getElem_cons_succ]
          refine wpAnyH_done (by kernel_rfl) ?_ _
          refine NoPanic.normal ?_
          cases hv with
          | true =>
            have HE := Lib.hid (HHI.out HHV.out)
            go_wp2
            go_ret2
            exact ⟨by rw [HE.out]; rfl, HBD.out⟩
          | false =>
            have HR := Lib.hid (HW1.out HHV.out)
            go_wp2
            refine ⟨?_, by simp [intOf] <;> omega⟩
            have R := HR.out
            first | exact R | ((repeat apply Exists.intro); exact ⟨R, rfl⟩)
      · have t2 : decide ((a : Int) + (k : Int) ≤ (B.size : Int)) = false := decide_eq_false (by omega)
        have HE : Hid (nxN B a = (0, 0)) := Lib.hid (nx_none ha (fun m h1 h2 h3 => HN.out m h1 (by omega) h3))
        clear hk
        go_wp2
        go_ret2
        exact ⟨by rw [HE.out]; rfl, HBW.out⟩
    · have t1 : decide (k ≤ 4) = false := decide_eq_false hk4
      have t1' : decide ((k : Int) ≤ 4) = false := decide_eq_false (by omega)
      have HE : Hid (nxN B a = (0, 0)) := Lib.hid (nx_none ha (fun m h1 h2 h3 => HN.out m h1 (by omega) h3))
      clear hk4
      go_wp2
      go_ret2
      exact ⟨by rw [HE.out]; rfl, HBW.out⟩
end Go.Proofs.YtmhfbdeeebbloaaDoor
