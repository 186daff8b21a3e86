/- The document's tree, at a number that is not there. -/
import Derived.Test.YtmdalkjhlhkloaaDoorArena14
namespace Go.Proofs.YtmdalkjhlhkloaaDoor
open Go.RowKit
theorem rdeep_out (B : Nat) (vV vU : Value) (vs us : List Int) (most id : Int) (w : World) (h : RTreeAt w B vV vU vs us most) (hid : ¬ (0 ≤ id ∧ id < vs.length)) :
    Calls Tryd.prog 62 #[.pointer (some ⟨B, 0, none⟩), .int .i64 id] w fun e w' => e = .returned (.int .i64 (-1)) ∧ w = w' := by
  have HH := rhas_any B vV vU vs us most id w h
  rw [decide_eq_false hid] at HH
  have HH := Lib.hid HH
  clear h hid
  go_enter Tryd.func62, Tryd.ntmps62
  go_wp2_with fail
  refine HH.out.mono ?_
  rintro e w1 ⟨rfl, rfl⟩
  go_wp2
  go_ret
  exact ⟨rfl, rfl⟩
theorem rwalk_out (B : Nat) (vV vU : Value) (vs us : List Int) (most id : Int) (w : World) (h : RTreeAt w B vV vU vs us most) (hid : ¬ (0 ≤ id ∧ id < vs.length)) :
    Calls Tryd.prog 64 #[.pointer (some ⟨B, 0, none⟩), .int .i64 id] w fun e w' => e = .returned (.slice (some ⟨w.heap.size, 0, none⟩) 0 0) ∧ Below w.heap.size w w' := by
  have HH := rhas_any B vV vU vs us most id w h
  rw [decide_eq_false hid] at HH
  have HH := Lib.hid HH
  clear h hid
  go_enter Tryd.func64, Tryd.ntmps64
  go_wp2_with fail
  refine HH.out.mono ?_
  rintro e w1 ⟨rfl, rfl⟩
  go_wp2
  go_ret
  exact ⟨rfl, ext_alloc (Below.refl _ _) _⟩
def RwRel (ups : List Nat) (f i : Nat) (W : World) (v k : Value) (wr : World) : Prop := ∃ (j : Nat) (A : List Nat), k = .int .i64 j ∧ j ≤ (kids ups i).length ∧ A = i :: ((kids ups i).take j).flatMap (pre ups f) ∧ wr.ownsRow W.heap.size 3 1 v A.length (intsV A) ∧ Below W.heap.size W wr
end Go.Proofs.YtmdalkjhlhkloaaDoor
