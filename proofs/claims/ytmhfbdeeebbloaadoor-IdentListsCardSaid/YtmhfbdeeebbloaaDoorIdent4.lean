/- The document's example of names. -/
import Derived.Test.YtmhfbdeeebbloaaDoorIdent3
import Derived.LoopN
namespace Go.Proofs.YtmhfbdeeebbloaaDoor
open Go.RowKit
/-- The test of a package's name at a letter. -/
theorem pk_any (i c b1 b2 : Nat) (fst : Bool) (W : World) (h1 : W.cell? ⟨b1, 0, none⟩ = some (.bool fst)) (hf : W.frozen? ⟨b1, 0, none⟩ = false) (hl : letterB c = true) (hc : c ≠ 46) :
    Calls Tryd.prog 71 #[.int .i64 i, .int .u8 c, .pointer (some ⟨b1, 0, none⟩), .pointer (some ⟨b2, 0, none⟩)] W fun e w' => e = .returned (.bool true) ∧ w' = if fst then W.setCell ⟨b1, 0, none⟩ (.bool false) else W := by
  have t : ((c : Int) == 46) = false := beq_eq_false_iff_ne.2 (by omega)
  cases fst
  all_goals
    go_enter Tryd.func71, Tryd.ntmps71
    go_wp2_with fail
    refine (letter_any c _).mono ?_
    rintro e w1 ⟨rfl, rfl⟩
    rw [hl]
    go_wp2
    go_ret
    exact ⟨rfl, rfl⟩
set_option maxRecDepth 100000 in
set_option maxHeartbeats 8000000 in
theorem read_com (b1 b2 : Nat) (w : World) (h1 : w.cell? ⟨b1, 0, none⟩ = some (.bool true)) (hf : w.frozen? ⟨b1, 0, none⟩ = false) (hb1 : b1 < w.heap.size) :
    Calls Tryd.prog 35 #[.string ⟨#[99, 111, 109]⟩, .int .i64 223, .func (.func 71) #[] #[.pointer (some ⟨b1, 0, none⟩), .pointer (some ⟨b2, 0, none⟩)], .bool true] w fun e w' => e = .returned .nilIface ∧
      ∃ W0, Below w.heap.size w W0 ∧ w' = W0.setCell ⟨b1, 0, none⟩ (.bool false) := by
  have hcv := run_bytes_of_string (P := Tryd.prog) w 9 26 5 ⟨#[99, 111, 109]⟩ Tryd.underlying9 Tryd.underlying26 Tryd.underlying5
  rw [show (⟨#[99, 111, 109]⟩ : ByteArray).size = 3 from rfl] at hcv
  generalize hcap : grownCap w 3 0 5 = cap at hcv
  obtain ⟨W0, hW0⟩ : ∃ W, w.drew.alloc (.cells (bytesRow ⟨#[99, 111, 109]⟩ cap) 5 ((bytesRow ⟨#[99, 111, 109]⟩ cap).size, (bytesRow ⟨#[99, 111, 109]⟩ cap).size + 1)) = W := ⟨_, rfl⟩
  rw [hW0] at hcv
  have hb0 : Below w.heap.size w W0 := by rw [← hW0]; exact ⟨rfl, rfl, rfl, by simp, fun k hk => Below.heap_alloc w.drew _ k hk⟩
  have hcell : ∀ i (hi : i < 3), W0.cell? ⟨w.heap.size, i, none⟩ = some (.int .u8 ((#[99, 111, 109] : Array UInt8)[i].toNat : Int)) := fun i hi => by
    have := bytesRow_at ⟨#[99, 111, 109]⟩ cap i hi
    rw [← hW0]
    have hx : (w.drew.alloc (.cells (bytesRow ⟨#[99, 111, 109]⟩ cap) 5 ((bytesRow ⟨#[99, 111, 109]⟩ cap).size, (bytesRow ⟨#[99, 111, 109]⟩ cap).size + 1))).heap[w.heap.size]? = some (.cells (bytesRow ⟨#[99, 111, 109]⟩ cap) 5 ((bytesRow ⟨#[99, 111, 109]⟩ cap).size, (bytesRow ⟨#[99, 111, 109]⟩ cap).size + 1)) := heap_alloc_new w.drew _
    rw [cell_of_row _ w.heap.size i _ _ _ hx]
    simpa using this
  have x0 : W0.cell? ⟨w.heap.size, 0, none⟩ = some (.int .u8 99) := hcell 0 (by decide)
  have c1 : W0.cell? ⟨b1, 0, none⟩ = some (.bool true) := by rw [bcell1 hb0 hb1]; exact h1
  have f1 : W0.frozen? ⟨b1, 0, none⟩ = false := by rw [bfrozen1 hb0 hb1]; exact hf
  have hne : w.heap.size ≠ b1 := by omega
  obtain ⟨W1, hW1⟩ : ∃ W, W = W0.setCell ⟨b1, 0, none⟩ (.bool false) := ⟨_, rfl⟩
  have k1 : W1.heap[w.heap.size]? = W0.heap[w.heap.size]? := by rw [hW1]; exact Below.heap_setCell _ _ _ _ hne
  have y1 : W1.cell? ⟨w.heap.size, 1, none⟩ = some (.int .u8 111) := by rw [cell_keep k1]; exact hcell 1 (by decide)
  have y2 : W1.cell? ⟨w.heap.size, 2, none⟩ = some (.int .u8 109) := by rw [cell_keep k1]; exact hcell 2 (by decide)
  have c2 : W1.cell? ⟨b1, 0, none⟩ = some (.bool false) := by rw [hW1]; exact World.cell?_setCell_same _ _ _ c1
  have f2 : W1.frozen? ⟨b1, 0, none⟩ = false := by
    rw [hW1]
    have hlt : b1 < W0.heap.size := World.block_lt_of_cell? _ _ c1
    simpa using f1
  have P1 := Lib.hid (pk_any 0 99 b1 b2 true W0 c1 f1 (by decide) (by decide))
  have P2 := Lib.hid (pk_any 1 111 b1 b2 false W1 c2 f2 (by decide) (by decide))
  have P3 := Lib.hid (pk_any 2 109 b1 b2 false W1 c2 f2 (by decide) (by decide))
  have HB := Lib.hid hb0; have HW1 := Lib.hid hW1
  clear hcell hb0 hW0 hcap hW1 c1 f1 c2 f2 h1 hf k1
  go_enter Tryd.func35, Tryd.ntmps35
  go_wp2_with fail
  refine wp_loop_rounds 4 ?_
  rw [rounds_succ]
  go_wp2_with fail
  refine P1.out.mono ?_
  rintro e w1 ⟨rfl, h⟩
  simp only [if_true] at h
  rw [← HW1.out] at h
  subst h
  go_wp2_with fail
  rw [rounds_succ]
  go_wp2_with fail
  refine P2.out.mono ?_
  rintro e w1 ⟨rfl, h⟩
  simp at h
  subst h
  go_wp2_with fail
  rw [rounds_succ]
  go_wp2_with fail
  refine P3.out.mono ?_
  rintro e w1 ⟨rfl, h⟩
  simp at h
  subst h
  go_wp2_with fail
  rw [rounds_succ]
  go_wp2
  go_ret
  exact ⟨rfl, W0, HB.out, HW1.out⟩
end Go.Proofs.YtmhfbdeeebbloaaDoor
