/- The document's tree: nothing beneath a number that is not there. -/
import Derived.Test.YtmdalkjhlhkloaaDoorArena15
namespace Go.Proofs.YtmdalkjhlhkloaaDoor
open Go.RowKit
def RkoRel (n : Nat) (W : World) (V v k : Value) (wr : World) : Prop := wr = W ∧ v = V ∧ ∃ j : Nat, k = .int .i64 j ∧ 1 ≤ j ∧ j ≤ n + 1
set_option maxRecDepth 100000 in
set_option maxHeartbeats 4000000 in
theorem rkids_out (B : Nat) (vV vU : Value) (vs us : List Int) (most id : Int) (w : World) (h : RTreeAt w B vV vU vs us most) (hid : ¬ (0 ≤ id ∧ id < vs.length)) (hm : vs.length ≤ 1000000) :
    Calls Tryd.prog 59 #[.pointer (some ⟨B, 0, none⟩), .int .i64 id] w fun e w' => e = .returned (.slice (some ⟨w.heap.size, 0, none⟩) 0 0) ∧ Below w.heap.size w w' := by
  have hb0 := ext_alloc (Below.refl w.heap.size w) (.cells #[] 3)
  have h0 := h.below hb0
  have HH := rhas_any B vV vU vs us most id _ h0
  rw [decide_eq_false hid] at HH
  obtain ⟨W0, hW0⟩ : ∃ W, w.alloc (.cells #[] 3) = W := ⟨_, rfl⟩
  rw [hW0] at HH h0 hb0
  have c0 := h0.cell0
  obtain ⟨aV, capV, rfl, _⟩ := aown_form h.ownV
  have HHH := Lib.hid HH; have HB := Lib.hid hb0
  clear HH hb0 h h0 hid
  go_enter Tryd.func59, Tryd.ntmps59
  go_wp2_with fail
  go_loopw [5, 6] (RkoRel vs.length W0 (.slice (some ⟨w.heap.size, 0, none⟩) 0 0)) (fun _ k _ => vs.length + 1 - (intOf k).toNat)
  case atStart => exact ⟨rfl, rfl, 1, rfl, Nat.le_refl _, by omega⟩
  case round =>
    obtain ⟨rfl, rfl, j, rfl, hj1, hj⟩ := hrel
    by_cases hlt : j < vs.length
    · have R : RkoRel vs.length wr (.slice (some ⟨w.heap.size, 0, none⟩) 0 0) (.slice (some ⟨w.heap.size, 0, none⟩) 0 0) (.int .i64 (j + 1)) wr := ⟨rfl, rfl, j + 1, by go_num, by omega, by omega⟩
      have HR := Lib.hid R
      clear R hW0
      go_wp2_with fail
      refine HHH.out.mono ?_
      rintro e w1 ⟨rfl, rfl⟩
      go_wp2
      refine ⟨?_, by simp [intOf]; omega⟩
      have R := HR.out
      first | exact R | ((repeat apply Exists.intro); exact ⟨R, rfl⟩)
    · clear hW0
      go_wp2
      go_ret
      exact ⟨rfl, HB.out⟩
end Go.Proofs.YtmdalkjhlhkloaaDoor
