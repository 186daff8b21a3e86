/- A tree in memory; the walks that only read it. -/
import Derived.Test.YtmhfbdeeebbloaaDoorOwn0
import Derived.Test.YtmhfbdeeebbloaaDoorArena1
import Derived.Test.YtmhfbdeeebbloaaDoorJsP0
import Derived.Deep.RegionHeld3
import Derived.Deep.AppendLies
namespace Go.Proofs.YtmhfbdeeebbloaaDoor
open Go.RowKit
def JN.val (x : JN) : Value := .agg #[.int .i64 x.kind, .string x.key, .string x.text, .int .i64 x.at_]
def valC : Value → List Value
  | .agg ⟨[a, b, c, d]⟩ => [a, b, c, d]
  | _ => [.int .i64 0, .int .i64 0, .int .i64 0, .int .i64 0]
theorem valC_length (v : Value) : (valC v).length = 4 := by unfold valC; split <;> rfl
theorem valC_four (v : Value) : ∃ a b c d, valC v = [a, b, c, d] := by unfold valC; split <;> exact ⟨_, _, _, _, rfl⟩
def jcells (a : ANode) : List Value := valC a.val ++ [.int .i64 a.up, .int .i64 a.first, .int .i64 a.last, .int .i64 a.next, .int .i64 a.deep, .int .i64 a.count]
theorem jcells_length (a : ANode) : (jcells a).length = 10 := by simp [jcells, valC_length]
theorem jcells_tail (a : ANode) (j : Nat) : (jcells a)[4 + j]? = ([.int .i64 a.up, .int .i64 a.first, .int .i64 a.last, .int .i64 a.next, .int .i64 a.deep, .int .i64 a.count] : List Value)[j]? := by
  unfold jcells
  rw [List.getElem?_append_right (by rw [valC_length]; omega), valC_length, Nat.add_sub_cancel_left]
theorem jcells_set (a b : ANode) (j : Nat) (x : Value) (hv : b.val = a.val) (h : ([.int .i64 b.up, .int .i64 b.first, .int .i64 b.last, .int .i64 b.next, .int .i64 b.deep, .int .i64 b.count] : List Value) = ([.int .i64 a.up, .int .i64 a.first, .int .i64 a.last, .int .i64 a.next, .int .i64 a.deep, .int .i64 a.count] : List Value).set j x) : jcells b = (jcells a).set (4 + j) x := by
  unfold jcells
  rw [hv, List.set_append_right _ _ (by rw [valC_length]; omega), valC_length, Nat.add_sub_cancel_left, h]
/-- A tree lies at block B: its nodes are the slice v. -/
structure TreeAt (w : World) (B : Nat) (v : Value) (ns : List ANode) (most : Int) : Prop where
  box : w.heap[B]? = some (.cells #[v, .int .i64 most] 145 (0, 0))
  own : w.ownsRow (B + 1) 161 10 v ns.length (ns.flatMap jcells)
def TB (B : Nat) (v : Value) : Nat → Prop := fun k => k = B ∨ v.ownBlock = some k
section
variable {w w' : World} {B : Nat} {v : Value} {ns : List ANode} {most : Int}
theorem TreeAt.lt (h : TreeAt w B v ns most) : B < w.heap.size := (Array.getElem?_eq_some_iff.1 h.box).1
theorem TreeAt.cell0 (h : TreeAt w B v ns most) : w.cell? ⟨B, 0, none⟩ = some v := by simp [World.cell?, h.box]
theorem TreeAt.cell1 (h : TreeAt w B v ns most) : w.cell? ⟨B, 1, none⟩ = some (.int .i64 most) := by simp [World.cell?, h.box]
theorem TreeAt.ext (h : TreeAt w B v ns most) (hb : ∀ k, k < w.heap.size → TB B v k → w'.heap[k]? = w.heap[k]?) : TreeAt w' B v ns most :=
  ⟨by rw [hb B h.lt (.inl rfl)]; exact h.box, aown_ext h.own (fun g hg => hb g (h.own.lt g hg).2 (.inr hg)) (Nat.le_refl _)⟩
theorem TreeAt.below (h : TreeAt w B v ns most) (hb : Below w.heap.size w w') : TreeAt w' B v ns most := h.ext (fun k hk _ => hb.block k hk)
theorem TreeAt.form (h : TreeAt w B v ns most) : ∃ ao cap, v = .slice ao ns.length cap ∧ (ns.length = 0 ∧ ao = none ∨ ∃ g, ao = some ⟨g, 0, none⟩ ∧ B < g ∧ g < w.heap.size) := aown_form h.own
theorem TreeAt.form1 (h : TreeAt w B v ns most) (h0 : 0 < ns.length) : ∃ g cap, v = .slice (some ⟨g, 0, none⟩) ns.length cap ∧ B < g ∧ g < w.heap.size := by
  obtain ⟨ao, cap, rfl, ⟨h1, _⟩ | ⟨g, rfl, h1, h2⟩⟩ := h.form
  · omega
  · exact ⟨g, cap, rfl, h1, h2⟩
theorem TreeAt.node {g cap : Nat} (h : TreeAt w B (.slice (some ⟨g, 0, none⟩) ns.length cap) ns most) {i : Nat} {a : ANode} (hi : ns[i]? = some a) : ∀ j, j < 10 → w.cell? ⟨g, i * 10 + j, none⟩ = (jcells a)[j]? :=
  fun _ hj => row_cell jcells_length h.own hi hj
variable {g cap i : Nat} {a : ANode}
theorem TreeAt.n1 (h : TreeAt w B (.slice (some ⟨g, 0, none⟩) ns.length cap) ns most) (hi : ns[i]? = some a) : w.cell? ⟨g, i * 10 + 4, none⟩ = some (.int .i64 a.up) := (h.node hi 4 (by decide)).trans (jcells_tail a 0)
theorem TreeAt.n2 (h : TreeAt w B (.slice (some ⟨g, 0, none⟩) ns.length cap) ns most) (hi : ns[i]? = some a) : w.cell? ⟨g, i * 10 + 5, none⟩ = some (.int .i64 a.first) := (h.node hi 5 (by decide)).trans (jcells_tail a 1)
theorem TreeAt.n3 (h : TreeAt w B (.slice (some ⟨g, 0, none⟩) ns.length cap) ns most) (hi : ns[i]? = some a) : w.cell? ⟨g, i * 10 + 6, none⟩ = some (.int .i64 a.last) := (h.node hi 6 (by decide)).trans (jcells_tail a 2)
theorem TreeAt.n4 (h : TreeAt w B (.slice (some ⟨g, 0, none⟩) ns.length cap) ns most) (hi : ns[i]? = some a) : w.cell? ⟨g, i * 10 + 7, none⟩ = some (.int .i64 a.next) := (h.node hi 7 (by decide)).trans (jcells_tail a 3)
theorem TreeAt.n5 (h : TreeAt w B (.slice (some ⟨g, 0, none⟩) ns.length cap) ns most) (hi : ns[i]? = some a) : w.cell? ⟨g, i * 10 + 8, none⟩ = some (.int .i64 a.deep) := (h.node hi 8 (by decide)).trans (jcells_tail a 4)
theorem TreeAt.n6 (h : TreeAt w B (.slice (some ⟨g, 0, none⟩) ns.length cap) ns most) (hi : ns[i]? = some a) : w.cell? ⟨g, i * 10 + 9, none⟩ = some (.int .i64 a.count) := (h.node hi 9 (by decide)).trans (jcells_tail a 5)
end
theorem has_id (B : Nat) (v : Value) (ns : List ANode) (most : Int) (id : Int) (w : World) (h : TreeAt w B v ns most) :
    Calls Tryd.prog 105 #[.pointer (some ⟨B, 0, none⟩), .int .i64 id] w fun e w' => e = .returned (.bool (decide (0 ≤ id ∧ id < ns.length))) ∧ w = w' := by
  have c0 := h.cell0
  have hl := h.own.1
  obtain ⟨ao, cap, rfl, _⟩ := h.form
  clear h hl
  by_cases h0 : 0 ≤ id
  · by_cases h1 : id < ns.length
    · have e : decide (0 ≤ id ∧ id < (ns.length : Int)) = true := decide_eq_true ⟨h0, h1⟩
      rw [e]; clear e
      go_enter Tryd.func105, Tryd.ntmps105
      go_wp2
      go_ret
      exact ⟨rfl, rfl⟩
    · have e : decide (0 ≤ id ∧ id < (ns.length : Int)) = false := decide_eq_false (fun h => h1 h.2)
      rw [e]; clear e
      go_enter Tryd.func105, Tryd.ntmps105
      go_wp2
      go_ret
      exact ⟨rfl, rfl⟩
  · have e : decide (0 ≤ id ∧ id < (ns.length : Int)) = false := decide_eq_false (fun h => h0 h.1)
    rw [e]; clear e
    go_enter Tryd.func105, Tryd.ntmps105
    go_wp2
    go_ret
    exact ⟨rfl, rfl⟩
end Go.Proofs.YtmhfbdeeebbloaaDoor
