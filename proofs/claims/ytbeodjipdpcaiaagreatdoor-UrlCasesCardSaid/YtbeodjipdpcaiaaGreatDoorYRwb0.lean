/- Texts put together. -/
import Derived.Test.YtbeodjipdpcaiaaGreatDoorYMore14
import Derived.Test.YtbeodjipdpcaiaaGreatDoorYFow1s
namespace Go.Proofs.YtbeodjipdpcaiaaGreatDoor
open Go.RowKit
theorem bytesN_add (a b : ByteArray) : bytesN (a ++ b) = bytesN a ++ bytesN b := by
 unfold bytesN
 rw [ByteArray.data_append, Array.toList_append, List.map_append]
def gwA (f : Nat → Nat) (s : ByteArray) (j i : Nat) : Nat := if i < j then f i else byteAt s i
/-- A row of bytes, written anew up to a place. -/
structure GwAt (f : Nat → Nat) (s : ByteArray) (w : World) (X j : Nat) (wr : World) : Prop where
 below : Below w.heap.size w wr
 cell : ∀ i, i < s.size → wr.cell? ⟨X, i, none⟩ = some (.int .u8 (gwA f s j i : Nat))
 fz : ∀ i, i < s.size → wr.frozen? ⟨X, i, none⟩ = false
 lt : X < wr.heap.size
 ge : w.heap.size ≤ X
def GwRel (f : Nat → Nat) (s : ByteArray) (w : World) (X : Nat) (iv : Value) (wr : World) : Prop := ∃ j : Nat, iv = .int .i64 j ∧ j ≤ s.size ∧ GwAt f s w X j wr
theorem GwAt.keep {f : Nat → Nat} {s : ByteArray} {w wr : World} {X j : Nat} (h : GwAt f s w X j wr) (hj : f j = byteAt s j) : GwAt f s w X (j + 1) wr := by
 refine ⟨h.below, fun i hi => ?_, h.fz, h.lt, h.ge⟩
 rw [h.cell i hi]
 unfold gwA
 by_cases h1 : i < j
 · rw [if_pos h1, if_pos (by omega)]
 · by_cases h2 : i = j
   · subst h2
     rw [if_neg h1, if_pos (by omega), hj]
   · rw [if_neg h1, if_neg (by omega)]
theorem GwAt.put {f : Nat → Nat} {s : ByteArray} {w wr : World} {X j : Nat} (h : GwAt f s w X j wr) (hj : j < s.size) : GwAt f s w X (j + 1) (wr.setCell ⟨X, j, none⟩ (.int .u8 (f j : Nat))) := by
 refine ⟨h.below.setCell h.ge _, fun i hi => ?_, fun i hi => ?_, by simp [World.setCell]; exact h.lt, h.ge⟩
 · by_cases h2 : i = j
   · subst h2
     rw [World.cell?_setCell_same _ _ _ (h.cell i hi)]
     unfold gwA; rw [if_pos (by omega)]
   · have hne : (⟨X, j, none⟩ : Addr) ≠ ⟨X, i, none⟩ := fun e => h2 (by injection e with _ h _; exact h.symm)
     rw [World.cell?_setCell_other _ _ _ _ hne, h.cell i hi]
     unfold gwA
     by_cases h1 : i < j
     · rw [if_pos h1, if_pos (by omega)]
     · rw [if_neg h1, if_neg (by omega)]
 · rw [World.frozen?_setCell]; exact h.fz i hi
/-- A text as bytes, told at the start. -/
theorem gw_start (f : Nat → Nat) (s : ByteArray) (w : World) : ∃ (cap : Nat) (W0 : World), (convert 9 29 (.string s)).run Tryz.prog w = .ok (.slice (some ⟨w.heap.size, 0, none⟩) s.size cap) W0 ∧ s.size ≤ cap ∧ GwAt f s w w.heap.size 0 W0 := by
 have hcv := run_bytes_of_string (P := Tryz.prog) w 9 29 5 s Tryz.underlying9 Tryz.underlying29 Tryz.underlying5
 have hcap := grownCap_ge w s.size 0 5
 generalize grownCap w s.size 0 5 = cap at hcv hcap
 obtain ⟨W0, hW0⟩ : ∃ W, w.drew.alloc (.cells (bytesRow s cap) 5 ((bytesRow s cap).size, (bytesRow s cap).size + 1)) = W := ⟨_, rfl⟩
 rw [hW0] at hcv
 have hx : W0.heap[w.heap.size]? = some (.cells (bytesRow s cap) 5 ((bytesRow s cap).size, (bytesRow s cap).size + 1)) := by rw [← hW0]; exact heap_alloc_new w.drew _
 have hsz : s.size ≤ (bytesRow s cap).size := by
  refine Nat.le_of_not_lt (fun hlt => ?_)
  have := bytesRow_at s cap (bytesRow s cap).size hlt
  simp at this
 refine ⟨cap, W0, hcv, by simpa using hcap, ⟨by rw [← hW0]; exact ⟨rfl, rfl, rfl, by simp, fun k hk => Below.heap_alloc w.drew _ k hk⟩, fun i hi => by
     have hi' : i < s.data.size := hi
     have := bytesRow_at s cap i hi'
     rw [cell_of_row _ w.heap.size i _ _ _ hx]
     unfold gwA byteAt
     rw [if_neg (by omega), Array.getElem?_eq_getElem hi']
     simpa using this, fun i hi => by
     unfold World.frozen?
     rw [hx]
     simp; omega, by rw [← hW0]; simp, Nat.le_refl _⟩⟩
end Go.Proofs.YtbeodjipdpcaiaaGreatDoor
