/- Faults made, wrapped and told: api.Fail, api.Wrap, and the laws' own Kind, At and Has. -/
import Derived.Test.YtmhfbdeeebbloaaDoorErrs2
namespace Go.Proofs.YtmhfbdeeebbloaaDoor
open Go.RowKit Go.Extern.Stop Go.Stop Go.Extern
/-- The package errors holds the type of errors. -/
def Glob (w : World) : Prop := w.cell? ⟨0, 0, none⟩ = some (.iface 193 (.agg #[.pointer (some ⟨5, 28, none⟩)]))
theorem Glob.size {w : World} (h : Glob w) : 0 < w.heap.size := World.block_lt_of_cell? w ⟨0, 0, none⟩ h
theorem Glob.ext {w w' : World} (h : Glob w) (hb : Below w.heap.size w w') : Glob w' := by
  unfold Glob; rw [bcell1 hb h.size]; exact h
theorem Glob.alloc {w : World} (h : Glob w) (o : Obj) : Glob (w.alloc o) := h.ext (ext_alloc (Below.refl _ _) o)
theorem as_box (e : Addr) (w : World) (hg : Glob w) :
    Calls Tryd.prog 63 #[.iface 119 (.pointer (some e)), .iface 121 (.pointer (some ⟨w.heap.size, 0, none⟩))] (w.alloc (.cells #[.pointer none] 119)) fun ev w' => ev = .returned (.bool true) ∧ w'.cell? ⟨w.heap.size, 0, none⟩ = some (.pointer (some e)) ∧ w.heap.size < w'.heap.size ∧ Below w.heap.size w w' := by
  refine (as_hit e ⟨w.heap.size, 0, none⟩ (.pointer none) _ (hg.alloc _) (by simp) (by simp)).mono ?_
  rintro ev w' ⟨rfl, rfl⟩
  refine ⟨rfl, World.cell?_setCell_same _ _ _ (u := .pointer none) (cell_alloc _ (cell_alloc _ (cell_alloc _ (cell_alloc _ (by simp))))), by simp; omega, ?_⟩
  exact (ext_alloc (ext_alloc (ext_alloc (ext_alloc (ext_alloc (Below.refl _ _) _) _) _) _) _).setCell (Nat.le_refl _) _
def kindI : List (Int × Int) → Int
  | [] => 0
  | x :: _ => x.1
def atI : List (Int × Int) → Int
  | [] => -1
  | x :: _ => x.2
set_option maxRecDepth 100000 in
set_option maxHeartbeats 4000000 in
theorem kind_any (v : Value) (c : List (Int × Int)) (w : World) (hg : Glob w) (h : Rd (Own w) w v (errD 119 c)) :
    Calls Tryd.prog 26 #[v] w fun e w' => e = .returned (.int .i64 (kindI c)) ∧ Below w.heap.size w w' := by
  cases c with
  | nil =>
    simp only [errD] at h
    have e := h.nilI_inv
    subst e
    clear h hg
    go_enter Tryd.func26, Tryd.ntmps26
    go_wp2
    go_ret
    exact ⟨rfl, Below.refl _ _⟩
  | cons x r =>
    obtain ⟨k, a⟩ := x
    obtain ⟨b, off, u, rfl, hS, c0, _, _, _⟩ := fault_inv h
    have A := Lib.hid (as_box ⟨b, off, none⟩ w hg)
    have hS' : b < w.heap.size := hS
    clear h hg hS
    go_enter Tryd.func26, Tryd.ntmps26
    go_wp2_with fail
    refine A.out.mono ?_
    rintro e w1 ⟨rfl, hc, hz, hb⟩
    rw [← bcell1 hb hS'] at c0
    have HB := Lib.hid hb; clear hb
    go_wp2
    go_ret
    exact ⟨rfl, HB.out⟩
set_option maxRecDepth 100000 in
set_option maxHeartbeats 4000000 in
theorem at_any (v : Value) (c : List (Int × Int)) (w : World) (hg : Glob w) (h : Rd (Own w) w v (errD 119 c)) :
    Calls Tryd.prog 30 #[v] w fun e w' => e = .returned (.int .i64 (atI c)) ∧ Below w.heap.size w w' := by
  cases c with
  | nil =>
    simp only [errD] at h
    have e := h.nilI_inv
    subst e
    have hb := Lib.hid (ext_alloc (Below.refl w.heap.size w) (.cells #[.pointer none] 119))
    clear h hg
    go_enter Tryd.func30, Tryd.ntmps30
    go_wp2
    go_ret
    exact ⟨rfl, hb.out⟩
  | cons x r =>
    obtain ⟨k, a⟩ := x
    obtain ⟨b, off, u, rfl, hS, _, c1, _, _⟩ := fault_inv h
    have A := Lib.hid (as_box ⟨b, off, none⟩ w hg)
    have hS' : b < w.heap.size := hS
    clear h hg hS
    go_enter Tryd.func30, Tryd.ntmps30
    go_wp2_with fail
    refine A.out.mono ?_
    rintro e w1 ⟨rfl, hc, hz, hb⟩
    rw [← bcell1 hb hS'] at c1
    have HB := Lib.hid hb; clear hb
    go_wp2
    go_ret
    exact ⟨rfl, HB.out⟩
theorem has_any {S : Nat → Prop} (v : Value) (t : Int) (c : List (Int × Int)) (w : World) (h : Rd S w v (errD 119 c)) :
    Calls Tryd.prog 29 #[v, .int .i64 t] w fun e w' => e = .returned (.bool (isKind c t)) ∧ w = w' := by
  cases c with
  | nil =>
    simp only [errD] at h
    have e := h.nilI_inv
    subst e
    clear h
    go_enter Tryd.func29, Tryd.ntmps29
    go_wp2
    go_ret
    exact ⟨rfl, rfl⟩
  | cons x r =>
    obtain ⟨k, a⟩ := x
    have L := Lib.hid (is_any v t ((k, a) :: r) w h)
    obtain ⟨b, off, u, rfl, _⟩ := fault_inv h
    clear h
    go_enter Tryd.func29, Tryd.ntmps29
    go_wp2_with fail
    refine L.out.mono ?_
    rintro e w1 ⟨rfl, rfl⟩
    go_wp2
    go_ret
    exact ⟨rfl, rfl⟩
theorem Rd.fault {w : World} {k a : Int} {u : Value} {c : List (Int × Int)} (h : Rd (Own w) w u (errD 119 c)) :
    Rd (Own (w.alloc (.cells #[.int .i64 k, .int .i64 a, u] 123))) (w.alloc (.cells #[.int .i64 k, .int .i64 a, u] 123)) (.iface 119 (.pointer (some ⟨w.heap.size, 0, none⟩))) (errD 119 ((k, a) :: c)) := by
  have h' := h.ext (ext_alloc (Below.refl _ _) (.cells #[.int .i64 k, .int .i64 a, u] 123))
  simp only [errD]
  refine .iface _ _ _ (.ptr _ _ _ (fun j => (#[Value.int .i64 k, .int .i64 a, u][j]?).getD undef) (by show w.heap.size < _; simp) (fun j hj => ?_) (fun j hj => ?_))
  · have hj' : j = 0 ∨ j = 1 ∨ j = 2 := by simp at hj; omega
    rcases hj' with rfl | rfl | rfl <;> simp
  · have hj' : j = 0 ∨ j = 1 ∨ j = 2 := by simp at hj; omega
    rcases hj' with rfl | rfl | rfl
    · exact .int _ _
    · exact .int _ _
    · exact h'
theorem fail_any (k a : Int) (w : World) : Calls Tryd.prog 54 #[.int .i64 k, .int .i64 a] w fun e w' =>
    e = .returned (.iface 119 (.pointer (some ⟨w.heap.size, 0, none⟩))) ∧ w' = w.alloc (.cells #[.int .i64 k, .int .i64 a, .nilIface] 123) := by
  go_enter Tryd.func54, Tryd.ntmps54
  go_wp2
  go_ret
  exact ⟨rfl, rfl⟩
theorem Rd.failed (k a : Int) (w : World) : Rd (Own (w.alloc (.cells #[.int .i64 k, .int .i64 a, .nilIface] 123))) (w.alloc (.cells #[.int .i64 k, .int .i64 a, .nilIface] 123)) (.iface 119 (.pointer (some ⟨w.heap.size, 0, none⟩))) (errD 119 [(k, a)]) :=
  Rd.fault (c := []) (by simp only [errD]; exact .nilI)
theorem Rd.failedF (k a : Int) (w : World) : Rd (fun b => b = w.heap.size) (w.alloc (.cells #[.int .i64 k, .int .i64 a, .nilIface] 123)) (.iface 119 (.pointer (some ⟨w.heap.size, 0, none⟩))) (errD 119 [(k, a)]) := by
  simp only [errD]
  refine .iface _ _ _ (.ptr _ _ _ (fun j => (#[Value.int .i64 k, .int .i64 a, .nilIface][j]?).getD undef) rfl (fun j hj => ?_) (fun j hj => ?_))
  · have hj' : j = 0 ∨ j = 1 ∨ j = 2 := by simp at hj; omega
    rcases hj' with rfl | rfl | rfl <;> simp
  · have hj' : j = 0 ∨ j = 1 ∨ j = 2 := by simp at hj; omega
    rcases hj' with rfl | rfl | rfl
    · exact .int _ _
    · exact .int _ _
    · exact .nilI
end Go.Proofs.YtmhfbdeeebbloaaDoor
