/- The document's Parse, walked. -/
import Derived.Test.YtheoaijheijojaaGreatDoorZJrM4
import Derived.Test.YtheoaijheijojaaGreatDoorZJrM3s
namespace Go.Proofs.YtheoaijheijojaaGreatDoor
open Go.RowKit
def RpPost (w : World) (r : Sc PS) (e : Ending) (w' : World) : Prop := match r with
  | .ok s => ∃ D gn cn gu cu, e = .returned (.tuple #[ptrV D, .int .i64 0, .int .i64 0]) ∧ RView w' D s gn cn gu cu ∧ Below w.heap.size w w'
  | .no k p => k ≠ 0 ∧ e = .returned (.tuple #[.pointer none, .int .i64 k, .int .i64 p]) ∧ Below w.heap.size w w'
theorem rp_bad {w w' : World} {k : Nat} {p : Int} {R : Sc PS} (hk : k ≠ 0) (hR : R = .no k p) (hb : Below w.heap.size w w') : RpPost w R (.returned (.tuple #[.pointer none, .int .i64 k, .int .i64 p])) w' := by
  rw [hR]; exact ⟨hk, rfl, hb⟩
set_option maxRecDepth 100000 in
set_option maxHeartbeats 16000000 in
theorem rparse_any (w : World) (bv : Value) (B : ByteArray) (m : Bd) (h : Rd (Own w) w bv (bytesDB B)) (he : ScEnv w) (hz : B.size ≤ 100000) :
    Calls Tryz.prog 12 #[bv, .agg #[.int .i64 m.bytes, .int .i64 m.deep, .int .i64 m.nodes]] w (RpPost w (parseS B m)) := by
  obtain ⟨W1, hW1⟩ : ∃ W, w.alloc (.cells #[.int .i64 m.bytes, .int .i64 m.deep, .int .i64 m.nodes] 30) = W := ⟨_, rfl⟩
  have b1 : Below w.heap.size w W1 := by rw [← hW1]; exact ext_alloc (Below.refl _ _) _
  have cx : ∀ j, W1.cell? ⟨w.heap.size, j, none⟩ = (#[.int .i64 m.bytes, .int .i64 m.deep, .int .i64 m.nodes] : Array Value)[j]? := fun j => by rw [← hW1]; simp
  have z1 : W1.heap.size = w.heap.size + 1 := by rw [← hW1]; simp
  have HB1 := Lib.hid b1
  obtain ⟨a, c, hbv, _, hcap, _⟩ := h.by_inv
  have HH := Lib.hid h; have HE := Lib.hid he
  unfold parseS
  by_cases hb : m.bytes < B.size
  · rw [if_pos hb]
    have t1 : decide (m.bytes < (B.size : Int)) = true := decide_eq_true hb
    obtain ⟨mb, md, mn⟩ := m
    simp only at cx hW1 t1
    clear h he b1 hb
    subst hbv
    by_cases h0 : mb < 0
    · have t2 : decide (mb < 0) = true := decide_eq_true h0
      rw [show max mb 0 = 0 by omega]
      clear h0
      go_enter Tryz.func12, Tryz.ntmps12
      go_wp2
      refine bodyPost_ret (v := .tuple #[.pointer none, .int .i64 14, .int .i64 0]) (by simp [results, Tryz.results12, go_sem]) rfl ⟨by decide, rfl, HB1.out⟩
    · have t2 : decide (mb < 0) = false := decide_eq_false h0
      rw [show max mb 0 = mb by omega]
      clear h0
      go_enter Tryz.func12, Tryz.ntmps12
      go_wp2
      go_quiet (fail)
      go_wp2
      refine bodyPost_ret (v := .tuple #[.pointer none, .int .i64 14, .int .i64 mb]) (by simp [results, Tryz.results12, go_sem]) rfl ⟨by decide, rfl, drewN_heapB HB1.out _⟩
  · rw [if_neg hb]
    have t1 : decide (m.bytes < (B.size : Int)) = false := decide_eq_false hb
    obtain ⟨R, hR⟩ : ∃ R, runS B m 0 ps0 = R := ⟨_, rfl⟩
    rw [hR]
    have HR := Lib.hid hR
    obtain ⟨W2, hW2⟩ : ∃ W, W1.alloc (.cells #[.slice none 0 0, .slice none 0 0] 86) = W := ⟨_, rfl⟩
    obtain ⟨D, hD⟩ : ∃ D, W1.heap.size = D := ⟨_, rfl⟩
    obtain ⟨W3, hW3⟩ : ∃ W, W2.alloc (.cells #[bv, .int .i64 0, .int .i64 m.bytes, .int .i64 m.deep, .int .i64 m.nodes, ptrV D, .int .i64 0, .int .i64 0] 88) = W := ⟨_, rfl⟩
    obtain ⟨E, hE⟩ : ∃ E, W2.heap.size = E := ⟨_, rfl⟩
    have b2 : Below w.heap.size w W2 := by rw [← hW2]; exact ext_alloc b1 _
    have b3 : Below w.heap.size w W3 := by rw [← hW3]; exact ext_alloc b2 _
    have d2 : W2.heap[D]? = some (.cells #[.slice none 0 0, .slice none 0 0] 86 (0, 0)) := by rw [← hW2, ← hD]; exact heap_alloc_new W1 _
    have zD := heap_lt d2
    have d3 : W3.heap[D]? = some (.cells #[.slice none 0 0, .slice none 0 0] 86 (0, 0)) := by rw [← hW3, Below.heap_alloc _ _ _ zD]; exact d2
    have e3 : W3.heap[E]? = some (.cells #[bv, .int .i64 0, .int .i64 m.bytes, .int .i64 m.deep, .int .i64 m.nodes, ptrV D, .int .i64 0, .int .i64 0] 88 (0, 0)) := by rw [← hW3, ← hE]; exact heap_alloc_new W2 _
    have hre : RE W3 w.heap.size E D bv m ⟨0, 0, 0, [], []⟩ := ⟨.slice none 0 0, .slice none 0 0, e3, ⟨d3, World.ownsRow_nil _ _ _ _, World.ownsRow_nil _ _ _ _, by omega⟩, by have := b2.size; omega⟩
    have hPC : ∀ W, Below w.heap.size w W → PC w W bv B := fun W hW => ⟨he, h, hW⟩
    have VL := rvalue_any w E D bv B m (by omega) (B.size + 1) W3 ⟨0, 0, 0, [], []⟩ ⟨-1, false, 1, ⟨#[]⟩⟩ [] 0 ⟨#[]⟩ hre (hPC W3 b3) rfl rfl (Nat.zero_le _) (by omega) (wantV_1 rfl) rfl (.inr ⟨rfl, rfl⟩) ⟨rfl, fun i x _ hx => by simp at hx, fun x hx => by simp at hx⟩ (Nat.le_refl _) (Nat.le_refl _)
    have VL : Calls Tryz.prog 34 #[ptrV E, .int .i64 (-1), .string ⟨#[]⟩, .int .i64 0] W3 (RVal W3 w.heap.size E D bv B m 0 1 R [aftO ⟨-1, false, 1, ⟨#[]⟩⟩]) := by
      have e : runS B m ((0 : Nat) : Int) ⟨[], upsN [], [⟨-1, false, 1, ⟨#[]⟩⟩]⟩ = R := hR
      have := VL
      simp only at this
      rw [e] at this
      exact this
    have VL := Lib.hid VL
    have HPC := Lib.hid hPC
    have HB3 := Lib.hid b3
    have zE : E < W3.heap.size := heap_lt e3
    clear h he b1 hb hR b2 b3 d2 d3 e3 hre hPC zD z1
    obtain ⟨mb, md, mn⟩ := m
    simp only at cx hW1 hW3 t1
    subst hbv
    go_enter Tryz.func12, Tryz.ntmps12
    go_wp2_with fail
    clear hW1 hW2 hW3 hD hE
    refine VL.out.mono ?_
    rintro e w4 ⟨rfl, hb4, ht4, hres⟩
    rcases hres with ⟨k, p, s', hk, hk1, hp1, hre, hRR⟩ | ⟨i', s', _, hiB, hat, h0, hre, huok, hjl, _, hRR⟩
    · have c6 := hre.c6
      have c7 := hre.c7
      rw [hk1] at c6
      rw [hp1] at c7
      have zE4 := hre.lt
      have t2 : ((k : Int) == 0) = false := beq_eq_false_iff_ne.2 (by omega)
      have t3 : ((k : Int) != 0) = true := bne_iff_ne.2 (by omega)
      have HF := Lib.hid (fun n => rp_bad (w := w) (w' := w4.drewN n) hk hRR (drewN_heapB (HB3.out.trans hb4) n))
      clear hre hb4 ht4 hRR hk hk1 hp1
      go_wp2
      go_quiet (fail)
      go_wp2
      refine bodyPost_ret (v := .tuple #[.pointer none, .int .i64 k, .int .i64 p]) (by simp [results, Tryz.results12, go_sem]) rfl (HF.out _)
    · have c6 := hre.c6
      rw [h0] at c6
      have zE4 := hre.lt
      have hb4' := HB3.out.trans hb4
      have NX := rnext7_any w w4 E D _ B _ s' hre (HPC.out w4 hb4') (by omega) h0
      rw [hat] at NX
      have HB4 := Lib.hid hb4'; have H0 := Lib.hid h0; have HU := Lib.hid huok; have HJ := Lib.hid hjl
      clear hre hb4 hb4' ht4 h0 huok hjl
      cases hnx : nextI B i' with
      | no k p =>
        rw [hnx] at NX
        have hk := nextI_pos hnx
        have hrun : R = .no k p := hRR.trans (run_stop hnx)
        have t2 : ((k : Int) == 0) = false := beq_eq_false_iff_ne.2 (by omega)
        have t3 : ((k : Int) != 0) = true := bne_iff_ne.2 (by omega)
        have NX := Lib.hid NX; have HK := Lib.hid hk; have HRN := Lib.hid hrun
        clear hnx hk hrun hRR
        go_wp2_with fail
        refine NX.out.mono ?_
        rintro e w5 ⟨rfl, hre, hb5, ht5⟩
        have c6 := hre.c6
        have c7 := hre.c7
        have zE5 := hre.lt
        (try simp only at c6 c7)
        have HF := Lib.hid (fun n ob => rp_bad (w := w) (w' := (w5.alloc ob).drewN n) HK.out HRN.out (drewN_heapB (ext_alloc (HB4.out.trans hb5) ob) n))
        clear hre hb5 ht5
        go_wp2
        go_quiet (fail)
        go_wp2
        refine bodyPost_ret (v := .tuple #[.pointer none, .int .i64 k, .int .i64 p]) (by simp [results, Tryz.results12, go_sem]) rfl (HF.out _ _)
      | ok t =>
        rw [hnx] at NX
        obtain ⟨tk, tf, tt⟩ := t
        have NX2 : Calls Tryz.prog 35 #[ptrV E] w4 fun e w' => e = .returned (.agg #[.int .i64 tk, .int .i64 tf, .int .i64 tt]) ∧ RE w' w.heap.size E D _ _ s' ∧ Below w.heap.size w4 w' ∧ TKept w4 w' := NX
        have NX := Lib.hid NX2
        by_cases hk0 : tk = 0
        · have hrun := hRR.trans (d_end (B := B) (js := s'.js) (ups := upsN s'.ups) (o := aftO ⟨-1, false, 1, ⟨#[]⟩⟩) (r := []) rfl hnx hk0)
          have HRN := Lib.hid hrun
          have t2 : (tk != 0) = false := by rw [hk0]; rfl
          clear hnx hrun hRR NX2 hk0
          go_wp2_with fail
          refine NX.out.mono ?_
          rintro e w5 ⟨rfl, hre, hb5, ht5⟩
          have c5 := hre.c5
          have c6 := hre.c6
          rw [H0.out] at c6
          have zE5 := hre.lt
          (try simp only at c5 c6)
          have HF := Lib.hid (fun ob => show RpPost w R (.returned (.tuple #[ptrV D, .int .i64 0, .int .i64 0])) (w5.alloc ob) by
            obtain ⟨nv, uv, hr⟩ := hre
            obtain ⟨gn, cn, gu, cu, hv⟩ := hr.rd.view (st := [aftO ⟨-1, false, 1, ⟨#[]⟩⟩]) HU.out (by have := HJ.out; omega)
            rw [HRN.out]
            exact ⟨D, gn, cn, gu, cu, rfl, hv.below (ext_alloc (Below.refl _ _) ob), ext_alloc (HB4.out.trans hb5) ob⟩)
          clear hre hb5 ht5
          go_wp2
          refine bodyPost_ret (v := .tuple #[ptrV D, .int .i64 0, .int .i64 0]) (by simp [results, Tryz.results12, go_sem]) rfl (HF.out _)
        · have hrun := hRR.trans (d_no (B := B) (js := s'.js) (ups := upsN s'.ups) (o := aftO ⟨-1, false, 1, ⟨#[]⟩⟩) (r := []) rfl hnx hk0)
          have HRN := Lib.hid hrun
          have t2 : (tk != 0) = true := bne_iff_ne.2 hk0
          clear hnx hrun hRR NX2 hk0
          go_wp2_with fail
          refine NX.out.mono ?_
          rintro e w5 ⟨rfl, hre, hb5, ht5⟩
          have c6 := hre.c6
          rw [H0.out] at c6
          have zE5 := hre.lt
          (try simp only at c6)
          have FL := Lib.hid (fun ob => rfail_any (w5.alloc ob) w.heap.size E D _ _ s' 11 tf (hre.below (ext_alloc (Below.refl _ _) ob)) H0.out)
          have HB5 := Lib.hid (fun ob => ext_alloc (HB4.out.trans hb5) ob)
          clear hre hb5 ht5
          go_wp2_with fail
          refine (FL.out _).mono ?_
          rintro e w7 ⟨rfl, hre7, hb7, ht7⟩
          have c6 := hre7.c6
          have c7 := hre7.c7
          have zE7 := hre7.lt
          (try simp only at c6 c7)
          have HF := Lib.hid (fun n => rp_bad (k := 11) (w := w) (w' := w7.drewN n) (by decide) HRN.out (drewN_heapB ((HB5.out _).trans hb7) n))
          clear hre7 hb7 ht7
          go_wp2
          go_quiet (fail)
          go_wp2
          refine bodyPost_ret (v := .tuple #[.pointer none, .int .i64 11, .int .i64 tf]) (by simp [results, Tryz.results12, go_sem]) rfl (HF.out _)
end Go.Proofs.YtheoaijheijojaaGreatDoor
