/- The document's example of names, and the law IdentApps. -/
import Derived.Test.YtmhfbdeeebbloaaDoorIdent4
namespace Go.Proofs.YtmhfbdeeebbloaaDoor
open Go.RowKit
set_option maxRecDepth 100000 in
set_option maxHeartbeats 4000000 in
theorem package_com (w : World) :
    Calls Tryd.prog 32 #[.string ⟨#[99, 111, 109]⟩] w fun e w' => ∃ v, e = .returned v ∧ Rd (Own w') w' v (errD 119 [(10, 3)]) ∧ Below w.heap.size w w' := by
  obtain ⟨W1, hW1⟩ : ∃ W, (w.alloc (.cells #[.bool true] 4)).alloc (.cells #[.int .i64 0] 3) = W := ⟨_, rfl⟩
  have c1 : W1.cell? ⟨w.heap.size, 0, none⟩ = some (.bool true) := by rw [← hW1]; exact cell_alloc _ (by simp)
  have f1 : W1.frozen? ⟨w.heap.size, 0, none⟩ = false := by rw [← hW1]; simp
  have c2 : W1.cell? ⟨w.heap.size + 1, 0, none⟩ = some (.int .i64 0) := by rw [← hW1, World.cell?_alloc_at _ _ _ _ (by simp)]; rfl
  have z1 : W1.heap.size = w.heap.size + 2 := by rw [← hW1]; simp
  have hb1 : Below w.heap.size w W1 := by rw [← hW1]; exact ext_alloc (ext_alloc (Below.refl _ _) _) _
  have RC := Lib.hid (read_com w.heap.size (w.heap.size + 1) W1 c1 f1 (by omega))
  have C := Lib.hid (And.intro c1 (And.intro c2 z1)); have HB1 := Lib.hid hb1
  clear c1 f1 c2 z1 hb1
  subst hW1
  go_enter Tryd.func32, Tryd.ntmps32
  go_wp2_with fail
  refine RC.out.mono ?_
  rintro e w2 ⟨rfl, W0, hb0, hw2⟩
  have z0 := hb0.size
  have y1 : W0.cell? ⟨w.heap.size, 0, none⟩ = some (.bool true) := by rw [bcell1 hb0 (by have := C.out.2.2; omega)]; exact C.out.1
  have x1 : w2.cell? ⟨w.heap.size, 0, none⟩ = some (.bool false) := by rw [hw2]; exact World.cell?_setCell_same _ _ _ y1
  have x2 : w2.cell? ⟨w.heap.size + 1, 0, none⟩ = some (.int .i64 0) := by
    rw [hw2, cell_keep (Below.heap_setCell _ _ _ _ (by show w.heap.size + 1 ≠ w.heap.size; omega)), bcell1 hb0 (by have := C.out.2.2; omega)]; exact C.out.2.1
  have hb2 : Below w.heap.size w w2 := by rw [hw2]; exact (HB1.out.trans (hb0.mono HB1.out.size)).setCell (Nat.le_refl _) _
  have HB2 := Lib.hid hb2
  clear hb0 hw2 hb2 y1
  go_wp2_with fail
  refine (fail_any 10 3 _).mono ?_
  rintro e w3 ⟨rfl, hw3⟩
  have r := Rd.failed 10 3 w2
  rw [← hw3] at r
  have hb3 : Below w.heap.size w w3 := by rw [hw3]; exact ext_alloc HB2.out _
  have HR := Lib.hid r; have HB3 := Lib.hid hb3
  clear r hb3 hw3
  go_wp2
  go_ret
  exact ⟨_, rfl, HR.out, HB3.out⟩
def exS : ByteArray := ⟨#[65, 66, 67, 68, 69, 49, 50, 51, 52, 53, 46, 99, 111, 109, 46, 120]⟩
theorem exR : appR exS = [] := by
  unfold appR
  rw [readR_end]
  · rfl
  · intro m hm
    have : m < 16 := hm
    have h : ∀ m < 16, badAt exS 166 appB m = false := by decide
    exact h m this
set_option maxRecDepth 100000 in
set_option maxHeartbeats 4000000 in
theorem speaks04 (w : World) (hg : Glob w) : Calls Tryd.prog 8 #[] w fun e w' => e = .returned (.bool true) ∧ Below w.heap.size w w' := by
  have A := app_any exS w (by decide)
  rw [exR] at A
  have e1 : appTeam exS = ⟨#[65, 66, 67, 68, 69, 49, 50, 51, 52, 53]⟩ := by rw [appTeam, if_pos exR]; rfl
  have e2 : appBundle exS = ⟨#[99, 111, 109, 46, 120]⟩ := by rw [appBundle, if_pos exR]; rfl
  rw [e1, e2] at A
  unfold exS at A
  have HA := Lib.hid A; have HG := Lib.hid hg
  clear A e1 e2 hg
  go_enter Tryd.func8, Tryd.ntmps8
  go_wp2_with fail
  refine HA.out.mono ?_
  rintro e w1 ⟨v, rfl, hr, hb1⟩
  simp only [errD] at hr
  have ev := hr.nilI_inv
  subst ev
  have HB1 := Lib.hid hb1
  clear hr hb1
  go_wp2_with fail
  refine (package_com _).mono ?_
  rintro e w2 ⟨v, rfl, hr, hb2⟩
  have q1 := bcell1 hb2 (b := w1.heap.size) (by simp)
  have hz := hb2.size
  simp at hz
  have hb2' := ext_trans (ext_alloc HB1.out _) hb2
  obtain ⟨b, off, u, rfl, _⟩ := fault_inv hr
  have HS := Lib.hid (has_any _ 10 _ w2 hr)
  have AT := Lib.hid (at_any _ _ w2 (HG.out.ext hb2') hr)
  have HB2 := Lib.hid hb2'
  clear hr hb2 hb2'
  go_wp2_with fail
  refine HS.out.mono ?_
  rintro e w3 ⟨rfl, rfl⟩
  rw [show isKind [(10, 3)] 10 = true from rfl]
  go_wp2_with fail
  refine AT.out.mono ?_
  rintro e w3 ⟨rfl, hb3⟩
  rw [show atI [(10, 3)] = 3 from rfl]
  have HB3 := Lib.hid (ext_trans HB2.out hb3)
  clear hb3
  go_wp2
  go_ret
  exact ⟨rfl, HB3.out⟩
end Go.Proofs.YtmhfbdeeebbloaaDoor
