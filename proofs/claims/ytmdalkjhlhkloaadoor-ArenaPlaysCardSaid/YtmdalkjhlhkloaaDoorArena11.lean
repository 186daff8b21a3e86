/- The document's tree in memory: what it is, and the walks of Has and Deep. -/
import Derived.Test.YtmdalkjhlhkloaaDoorArena10
namespace Go.Proofs.YtmdalkjhlhkloaaDoor
open Go.RowKit
/-- The document's tree lies at block B: its values, and the numbers above them, in two rows of its own. -/
structure RTreeAt (w : World) (B : Nat) (vV vU : Value) (vs us : List Int) (most : Int) : Prop where
  box : w.heap[B]? = some (.cells #[vV, vU, .int .i64 most] 29 (0, 0))
  ownV : w.ownsRow (B + 1) 3 1 vV vs.length (vs.map (Value.int .i64))
  ownU : w.ownsRow (B + 1) 3 1 vU us.length (us.map (Value.int .i64))
  ne : ∀ g, vV.ownBlock = some g → vU.ownBlock ≠ some g
def RB (B : Nat) (vV vU : Value) : Nat → Prop := fun k => k = B ∨ vV.ownBlock = some k ∨ vU.ownBlock = some k
section
variable {w w' : World} {B : Nat} {vV vU : Value} {vs us : List Int} {most : Int}
theorem RTreeAt.lt (h : RTreeAt w B vV vU vs us most) : B < w.heap.size := (Array.getElem?_eq_some_iff.1 h.box).1
theorem RTreeAt.cell0 (h : RTreeAt w B vV vU vs us most) : w.cell? ⟨B, 0, none⟩ = some vV := by simp [World.cell?, h.box]
theorem RTreeAt.cell1 (h : RTreeAt w B vV vU vs us most) : w.cell? ⟨B, 1, none⟩ = some vU := by simp [World.cell?, h.box]
theorem RTreeAt.cell2 (h : RTreeAt w B vV vU vs us most) : w.cell? ⟨B, 2, none⟩ = some (.int .i64 most) := by simp [World.cell?, h.box]
theorem RTreeAt.ext (h : RTreeAt w B vV vU vs us most) (hb : ∀ k, k < w.heap.size → RB B vV vU k → w'.heap[k]? = w.heap[k]?) : RTreeAt w' B vV vU vs us most :=
  ⟨by rw [hb B h.lt (.inl rfl)]; exact h.box, aown_ext h.ownV (fun g hg => hb g (h.ownV.lt g hg).2 (.inr (.inl hg))) (Nat.le_refl _), aown_ext h.ownU (fun g hg => hb g (h.ownU.lt g hg).2 (.inr (.inr hg))) (Nat.le_refl _), h.ne⟩
theorem RTreeAt.below (h : RTreeAt w B vV vU vs us most) (hb : Below w.heap.size w w') : RTreeAt w' B vV vU vs us most := h.ext (fun k hk _ => hb.block k hk)
theorem RTreeAt.upCell {g n cap : Nat} (h : RTreeAt w B vV (.slice (some ⟨g, 0, none⟩) n cap) vs us most) (hn : us.length = n) {i : Nat} {x : Int} (hx : us[i]? = some x) : w.cell? ⟨g, i, none⟩ = some (.int .i64 x) := by
  subst hn
  have hi := (List.getElem?_eq_some_iff.1 hx).1
  rw [h.ownU.cellAt i (by omega), List.getElem?_map, hx]; rfl
end
theorem rhas_any (B : Nat) (vV vU : Value) (vs us : List Int) (most id : Int) (w : World) (h : RTreeAt w B vV vU vs us most) :
    Calls Tryd.prog 17 #[.pointer (some ⟨B, 0, none⟩), .int .i64 id] w fun e w' => e = .returned (.bool (decide (0 ≤ id ∧ id < vs.length))) ∧ w = w' := by
  have c0 := h.cell0
  have hl := h.ownV.1
  obtain ⟨ao, cap, rfl, _⟩ := aown_form h.ownV
  clear h hl
  by_cases h0 : 0 ≤ id
  · have t0 : decide (0 ≤ id) = true := decide_eq_true h0
    by_cases h1 : id < vs.length
    · have t1 : decide (id < (vs.length : Int)) = true := decide_eq_true h1
      rw [decide_eq_true (And.intro h0 h1)]
      go_enter Tryd.func17, Tryd.ntmps17
      go_wp2
      go_ret
      exact ⟨rfl, rfl⟩
    · have t1 : decide (id < (vs.length : Int)) = false := decide_eq_false h1
      rw [decide_eq_false (fun h : 0 ≤ id ∧ id < (vs.length : Int) => h1 h.2)]
      go_enter Tryd.func17, Tryd.ntmps17
      go_wp2
      go_ret
      exact ⟨rfl, rfl⟩
  · have t0 : decide (0 ≤ id) = false := decide_eq_false h0
    rw [decide_eq_false (fun h : 0 ≤ id ∧ id < (vs.length : Int) => h0 h.1)]
    go_enter Tryd.func17, Tryd.ntmps17
    go_wp2
    go_ret
    exact ⟨rfl, rfl⟩
end Go.Proofs.YtmdalkjhlhkloaaDoor
