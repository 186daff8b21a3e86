/- Set and Kid of a tree of numbers; Add where there is no room. -/
import Derived.Test.YtmdalkjhlhkloaaDoorArena10
namespace Go.Proofs.YtmdalkjhlhkloaaDoor
open Go.RowKit
section
variable (B : Nat) (v : Value) (ns : List ANode) (most : Int) (w : World)
theorem set_out (id x : Int) (h : TreeAt w B v ns most) (hid : ¬ (0 ≤ id ∧ id < ns.length)) : Calls Tryd.prog 16 #[.pointer (some ⟨B, 0, none⟩), .int .i64 id, .int .i64 x] w fun e w' => e = .returned (.iface 109 (.pointer (some ⟨w.heap.size, 0, none⟩))) ∧ w' = w.alloc (.cells #[.int .i64 30, .int .i64 id, .nilIface] 113) := by
  have HH := has_id B v ns most id w h
  rw [decide_eq_false hid] at HH
  have HH := Lib.hid HH
  have FA := Lib.hid (fail_any 30 id w)
  clear h hid
  go_enter Tryd.func16, Tryd.ntmps16
  go_wp2_with fail
  refine HH.out.mono ?_
  rintro e w1 ⟨rfl, rfl⟩
  go_wp2_with fail
  refine FA.out.mono ?_
  rintro e w1 ⟨rfl, rfl⟩
  go_wp2
  go_ret
  exact ⟨rfl, rfl⟩
theorem set_in (i : Nat) (a : ANode) (n x : Int) (h : TreeAt w B v ns most) (ha : ns[i]? = some a) (hv : a.val = .int .i64 n) (hm : ns.length ≤ 1000000) : Calls Tryd.prog 16 #[.pointer (some ⟨B, 0, none⟩), .int .i64 i, .int .i64 x] w fun e w' => e = .returned .nilIface ∧ TreeAt w' B v (ns.set i { a with val := .int .i64 x }) most ∧ Only (TB B v) w w' := by
  have hi := (List.getElem?_eq_some_iff.1 ha).1
  have HH := has_id B v ns most i w h
  rw [decide_eq_true (by omega : 0 ≤ (i : Int) ∧ (i : Int) < (ns.length : Int))] at HH
  have HH := Lib.hid HH
  obtain ⟨g, cap, rfl, hBg, hgw⟩ := h.form1 (by omega)
  have c0 := h.cell0
  have n0 := h.n0 ha
  rw [hv] at n0
  have f0 := h.frozen rfl (i * 7)
  have h1 := Lib.hid (h.set rfl (j := 0) (b := { a with val := .int .i64 x }) (x := .int .i64 x) ha (by decide) rfl)
  have o1 := Lib.hid ((Only.refl (TB B (.slice (some ⟨g, 0, none⟩) ns.length cap)) w).set (p := ⟨g, i * 7, none⟩) (fun _ => .inr rfl) (.int .i64 x))
  clear h ha hv
  go_enter Tryd.func16, Tryd.ntmps16
  go_wp2_with fail
  refine HH.out.mono ?_
  rintro e w1 ⟨rfl, rfl⟩
  go_wp2
  go_ret
  exact ⟨rfl, h1.out, o1.out⟩
/-- No room. -/
theorem add_many (up x : Int) (h : TreeAt w B v ns most) (hid : (0 ≤ up ∧ up < ns.length) ∨ (ns.length = 0 ∧ up = -1)) (hmost : most ≤ ns.length) (_hm : ns.length ≤ 1000000) :
    Calls Tryd.prog 20 #[.pointer (some ⟨B, 0, none⟩), .int .i64 up, .int .i64 x] w fun e w' => e = .returned (.tuple #[.int .i64 0, .iface 109 (.pointer (some ⟨w.heap.size, 0, none⟩))]) ∧ w' = w.alloc (.cells #[.int .i64 15, .int .i64 up, .nilIface] 113) := by
  have HH := has_id B v ns most up w h
  have c0 := h.cell0
  have c1 := h.cell1
  obtain ⟨ao, cap, rfl, _⟩ := h.form
  have FA := Lib.hid (fail_any 15 up w)
  have t2 : decide (most ≤ (ns.length : Int)) = true := decide_eq_true hmost
  rcases hid with h0 | ⟨h0, rfl⟩
  · rw [decide_eq_true h0] at HH
    have HH := Lib.hid HH
    clear h h0
    go_enter Tryd.func20, Tryd.ntmps20
    go_wp2_with fail
    refine HH.out.mono ?_
    rintro e w1 ⟨rfl, rfl⟩
    go_wp2_with fail
    refine FA.out.mono ?_
    rintro e w1 ⟨rfl, rfl⟩
    go_wp2
    go_ret2
    exact ⟨rfl, rfl⟩
  · rw [decide_eq_false (by omega)] at HH
    have HH := Lib.hid HH
    have t : decide ((0 : Int) < (ns.length : Int)) = false := decide_eq_false (by omega)
    clear h
    go_enter Tryd.func20, Tryd.ntmps20
    go_wp2_with fail
    refine HH.out.mono ?_
    rintro e w1 ⟨rfl, rfl⟩
    go_wp2_with fail
    refine FA.out.mono ?_
    rintro e w1 ⟨rfl, rfl⟩
    go_wp2
    go_ret2
    exact ⟨rfl, rfl⟩
end
end Go.Proofs.YtmdalkjhlhkloaaDoor
