/- The document's text of a fingerprint; the law IdentPrints: walked. -/
import Derived.Test.YtmhfbdeeebbloaaDoorIdp3
import Derived.Test.YtmhfbdeeebbloaaDoorIdent5
namespace Go.Proofs.YtmhfbdeeebbloaaDoor
open Go.RowKit
def RpRel (f : Nat → Nat) (W : World) (o i : Value) (wr : World) : Prop := ∃ j : Nat, i = .int .i64 j ∧ j ≤ 32 ∧ o = .string (prT f j) ∧ Below W.heap.size W wr
set_option maxRecDepth 100000 in
set_option maxHeartbeats 8000000 in
theorem rprintText_any (f : Nat → Nat) (w : World) (hf : ∀ i, f i < 256) :
    Calls Tryd.prog 11 #[.agg (prC f 32)] w fun e w' => e = .returned (.string (prT f 32)) ∧ Below w.heap.size w w' := by
  obtain ⟨cs, hcs⟩ : ∃ cs, prC f 32 = cs := ⟨_, rfl⟩
  obtain ⟨W1, hW1⟩ : ∃ W, w.alloc (.cells cs 23) = W := ⟨_, rfl⟩
  have hb1 : Below w.heap.size w W1 := by rw [← hW1]; exact ext_alloc (Below.refl _ _) _
  have hx1 : W1.heap[w.heap.size]? = some (.cells cs 23 (0, 0)) := by rw [← hW1]; exact heap_alloc_new w _
  have hcell : ∀ j, j < 32 → W1.cell? ⟨w.heap.size, j, none⟩ = some (.int .u8 (f j : Nat)) := fun j hj => by
    have hg := prC_get f 32 j hj
    rw [if_pos hj, hcs] at hg
    simp [World.cell?, hx1, hg]
  have hz1 := lt_heap hx1
  rw [hcs]
  have HC := Lib.hid hcell; have HB1 := Lib.hid hb1
  have R0 : RpRel f W1 (.string ⟨#[]⟩) (.int .i64 0) W1 := ⟨0, rfl, by decide, rfl, Below.refl _ _⟩
  have HR0 := Lib.hid R0
  clear hcs hb1 hx1 hcell R0
  go_enter Tryd.func11, Tryd.ntmps11
  go_wp2_with fail
  clear hW1
  go_loopw [3, 4] (RpRel f W1) (fun _ i _ => 32 - (intOf i).toNat)
  case atStart => exact HR0.out
  case round =>
    obtain ⟨j, rfl, hj, rfl, hbw⟩ := hrel
    by_cases hlt : j < 32
    · have t1 : decide ((j : Int) < 32) = true := decide_eq_true (by omega)
      have t1' : decide (j < 32) = true := decide_eq_true hlt
      have q1 : IntKind.i64.wrap ((j : Int) + 1) = (j : Int) + 1 := IntWalk.i64_in _ (by omega)
      have cj := (bcell1 hbw hz1 j).trans (HC.out j hlt)
      have zw := Nat.lt_of_lt_of_le hz1 hbw.size
      have hfl := hf j
      have q2 : IntKind.u64.wrap (f j : Int) = (f j : Int) := IntWalk.u64_in _ (by omega)
      have WR := Lib.hid (rwritten2_any (f j) wr hfl)
      have hsz := prT_size f j
      have hps : prT f (j + 1) = (if 0 < j then prT f j ++ ⟨#[58]⟩ else prT f j) ++ dig2 (f j) := rfl
      have HBW := Lib.hid hbw
      by_cases h0 : 0 < j
      · have t2 : decide ((0 : Int) < (j : Int)) = true := decide_eq_true (by omega)
        have t2' : decide (0 < j) = true := decide_eq_true h0
        rw [if_pos h0] at hps
        have HPS := Lib.hid hps; have HSZ := Lib.hid hsz
        clear hps hsz hbw h0
        have hz : (prT f j).size ≤ 1000 := by have := HSZ.out; omega
        generalize f j = x at *
        generalize prT f j = T at *
        go_wp2_with fail
        refine WR.out.mono ?_
        rintro e w5 ⟨rfl, hb5⟩
        have R : RpRel f W1 (.string ((T ++ ⟨#[58]⟩) ++ dig2 x)) (.int .i64 ((j : Int) + 1)) w5 := ⟨j + 1, by go_num, hlt, by rw [HPS.out], ext_trans HBW.out hb5⟩
        have HRR := Lib.hid R
        clear R hb5
        have hd2 := dig2_size x
        generalize dig2 x = dx at *
        go_wp2
        refine ⟨?_, by simp [intOf]; omega⟩
        have R := HRR.out
        first | exact R | ((repeat apply Exists.intro); exact ⟨R, rfl⟩)
      · have t2 : decide ((0 : Int) < (j : Int)) = false := decide_eq_false (by omega)
        have t2' : decide (0 < j) = false := decide_eq_false h0
        rw [if_neg h0] at hps
        have HPS := Lib.hid hps; have HSZ := Lib.hid hsz
        clear hps hsz hbw h0
        have hz : (prT f j).size ≤ 1000 := by have := HSZ.out; omega
        generalize f j = x at *
        generalize prT f j = T at *
        go_wp2_with fail
        refine WR.out.mono ?_
        rintro e w5 ⟨rfl, hb5⟩
        have R : RpRel f W1 (.string (T ++ dig2 x)) (.int .i64 ((j : Int) + 1)) w5 := ⟨j + 1, by go_num, hlt, by rw [HPS.out], ext_trans HBW.out hb5⟩
        have HRR := Lib.hid R
        clear R hb5
        have hd2 := dig2_size x
        generalize dig2 x = dx at *
        go_wp2
        refine ⟨?_, by simp [intOf]; omega⟩
        have R := HRR.out
        first | exact R | ((repeat apply Exists.intro); exact ⟨R, rfl⟩)
    · have t1 : decide ((j : Int) < 32) = false := decide_eq_false (by omega)
      have t1' : decide (j < 32) = false := decide_eq_false hlt
      obtain rfl : j = 32 := by omega
      have HF := Lib.hid (ext_trans HB1.out hbw)
      clear hbw
      generalize hT : prT f 32 = T at *
      go_wp2
      go_ret
      exact ⟨by rw [hT]; rfl, HF.out⟩
end Go.Proofs.YtmhfbdeeebbloaaDoor
