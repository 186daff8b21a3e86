/- A new tree, its first node, the numbers beneath one, and the law's own comparison of lists. -/
import Derived.Test.YtmhfbdeeebbloaaDoorJT4
import Derived.BigQuiet
namespace Go.Proofs.YtmhfbdeeebbloaaDoor
open Go.RowKit
theorem new_any (m : Int) (w : World) : Calls Tryd.prog 61 #[.int .i64 m] w fun e w' => e = .returned (.pointer (some ⟨w.heap.size, 0, none⟩)) ∧ w' = w.alloc (.cells #[.slice none 0 0, .int .i64 m] 145) := by
  go_enter Tryd.func61, Tryd.ntmps61
  go_wp2
  go_ret
  exact ⟨rfl, rfl⟩
theorem TreeAt.new (m : Int) (w : World) : TreeAt (w.alloc (.cells #[.slice none 0 0, .int .i64 m] 145)) w.heap.size (.slice none 0 0) [] m :=
  ⟨heap_alloc_new w _, World.ownsRow_nil _ _ _ _⟩
set_option maxRecDepth 100000 in
set_option maxHeartbeats 8000000 in
theorem add_root (B : Nat) (most : Int) (x : JN) (w0 : World) (h0_ : TreeAt w0 B (.slice none 0 0) [] most) (hmost : 0 < most) :
    Calls Tryd.prog 135 #[.pointer (some ⟨B, 0, none⟩), .int .i64 (-1), .agg #[.int .i64 x.kind, .string x.key, .string x.text, .int .i64 x.at_]] w0 fun e w' => AddPost B (.slice none 0 0) [root x.val] most w0 e w' 0 := by
  obtain ⟨w, hbx⟩ : ∃ W, w0.alloc (.cells #[.int .i64 x.kind, .string x.key, .string x.text, .int .i64 x.at_] 58) = W := ⟨_, rfl⟩
  have h : TreeAt w B (.slice none 0 0) [] most := h0_.below (by rw [← hbx]; exact ext_alloc (Below.refl _ _) _)
  have bx : ∀ o, w.cell? ⟨w0.heap.size, o, none⟩ = (#[.int .i64 x.kind, .string x.key, .string x.text, .int .i64 x.at_] : Array Value)[o]? := fun o => by rw [← hbx]; simp
  have HOB : Hid (Only (TB B (.slice none 0 0)) w0 w) := Lib.hid (by rw [← hbx]; exact (Only.refl _ _).alloc _)
  clear h0_
  have HH := Lib.hid (has_id B _ [] most (-1) w h)
  have c0 := h.cell0
  have c1 := h.cell1
  have hBw := h.lt
  have t2 : decide (most ≤ (0 : Int)) = false := decide_eq_false (by omega)
  obtain ⟨W3, hW3⟩ : ∃ W, w.alloc (.cells #[.int .i64 x.kind, .string x.key, .string x.text, .int .i64 x.at_, .int .i64 (-1), .int .i64 (-1), .int .i64 (-1), .int .i64 (-1), .int .i64 0, .int .i64 0] 161) = W := ⟨_, rfl⟩
  have h3 : TreeAt W3 B (.slice none 0 0) [] most := h.below (by rw [← hW3]; exact ext_alloc (Below.refl _ _) _)
  have d3 : ∀ o, W3.cell? ⟨w.heap.size, o, none⟩ = #[.int .i64 x.kind, .string x.key, .string x.text, .int .i64 x.at_, .int .i64 (-1), .int .i64 (-1), .int .i64 (-1), .int .i64 (-1), .int .i64 0, .int .i64 0][o]? := fun o => by rw [← hW3]; simp
  have z3 : W3.heap.size = w.heap.size + 1 := by rw [← hW3]; simp
  have o3 : Only (TB B (.slice none 0 0)) w W3 := by rw [← hW3]; exact (Only.refl _ _).alloc _
  have e3 := h3.cell0
  have fB := h3.frozenB 0
  have y1 : B < W3.heap.size := by omega
  have HZ3 := Lib.hid z3; clear z3
  have HO3 := Lib.hid h3.own
  have H3 := Lib.hid h3; have O3 := Lib.hid o3
  clear h h3 o3
  subst hW3
  have HD3 := Lib.hid d3
  clear d3
  go_enter Tryd.func135, Tryd.ntmps135
  go_wp2_with fail
  clear hbx
  refine HH.out.mono ?_
  rintro e w1 ⟨rfl, rfl⟩
  rw [show decide ((0 : Int) ≤ -1 ∧ (-1 : Int) < (([] : List ANode).length : Int)) = false from rfl]
  go_wp2_with fail
  generalize (w.alloc (.cells #[.int .i64 x.kind, .string x.key, .string x.text, .int .i64 x.at_, .int .i64 (-1), .int .i64 (-1), .int .i64 (-1), .int .i64 (-1), .int .i64 0, .int .i64 0] 161)) = W3 at *
  have d3 := HD3.out
  obtain ⟨i0, hi0, hz0, hz1, hz2⟩ := info_parts infoNode
  go_region_law ((refine step_append_lies _ (by rfl) _ _ _ (by rfl) (B + 1) 161 i0 _ 10 96 Tryd.underlying143 hi0 hz0 hz1 hz2 rfl (by omega) (.slice none 0 0) 0 _ (by rfl) (by first | exact HO3.out.alloc _ | exact (HO3.out.alloc _).drew | exact HO3.out.drew.alloc _) ⟨W3.heap.size, 0, none⟩ 1 1 [.int .i64 x.kind, .string x.key, .string x.text, .int .i64 x.at_, .int .i64 (-1), .int .i64 (-1), .int .i64 (-1), .int .i64 (-1), .int .i64 0, .int .i64 0] (by rfl) (by rfl) (World.news_of_block (cs := #[.int .i64 x.kind, .string x.key, .string x.text, .int .i64 x.at_, .int .i64 (-1), .int .i64 (-1), .int .i64 (-1), .int .i64 (-1), .int .i64 0, .int .i64 0]) (t := 161) (fr := (0, 0)) (heap_alloc_new W3 _)) (by simp [Value.oneCell']) (by omega) (by simp [maxLen]) (by omega) (by simp; omega) (W3.heap.size + 1) (by simp) ?_; intro g' cap' w5 hown5 hgrow hat hlt; have b5 := hgrow.cell_far (a := ⟨B, 0, none⟩) (by simp; omega) (by simp [Value.ownBlock]); have c5 := hgrow.frozen_far (a := ⟨B, 0, none⟩) (by simp; omega) (by simp [Value.ownBlock])))
  all_goals go_wp2
  all_goals go_ret2
  all_goals exact AddPost.up HOB.out <| add_fin (new := root x.val) H3.out O3.out rfl (by have := HZ3.out; omega) (by first | exact ext_alloc (Below.refl _ _) _ | exact ⟨rfl, rfl, rfl, by simp, fun k hk => Below.heap_alloc W3 _ k hk⟩) hgrow hown5 hat
end Go.Proofs.YtmhfbdeeebbloaaDoor
