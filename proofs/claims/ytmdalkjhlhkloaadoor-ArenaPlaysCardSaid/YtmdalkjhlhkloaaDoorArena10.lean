/- The small functions of a tree, and its errors (door seat: the tree of numbers). -/
import Derived.Test.YtmdalkjhlhkloaaDoorArena6
import Derived.Test.YtmdalkjhlhkloaaDoorErrs3
namespace Go.Proofs.YtmdalkjhlhkloaaDoor
open Go.RowKit
section
variable (B : Nat) (v : Value) (ns : List ANode) (most : Int) (w : World)
theorem len_any (h : TreeAt w B v ns most) : Calls Tryd.prog 22 #[.pointer (some ⟨B, 0, none⟩)] w fun e w' => e = .returned (.int .i64 ns.length) ∧ w = w' := by
  have c0 := h.cell0
  obtain ⟨ao, cap, rfl, _⟩ := h.form
  clear h
  go_enter Tryd.func22, Tryd.ntmps22
  go_wp2
  go_ret
  exact ⟨rfl, rfl⟩
theorem value_out (id : Int) (h : TreeAt w B v ns most) (hid : ¬ (0 ≤ id ∧ id < ns.length)) : Calls Tryd.prog 58 #[.pointer (some ⟨B, 0, none⟩), .int .i64 id] w fun e w' => e = .returned (.tuple #[.int .i64 0, .bool false]) ∧ w = w' := by
  have HH := has_id B v ns most id w h
  rw [decide_eq_false hid] at HH
  have HH := Lib.hid HH
  clear h hid
  go_enter Tryd.func58, Tryd.ntmps58
  go_wp2_with fail
  refine HH.out.mono ?_
  rintro e w1 ⟨rfl, rfl⟩
  go_wp2
  go_ret2
  exact ⟨rfl, rfl⟩
theorem value_in (i : Nat) (a : ANode) (n : Int) (h : TreeAt w B v ns most) (ha : ns[i]? = some a) (hv : a.val = .int .i64 n) (hm : ns.length ≤ 1000000) : Calls Tryd.prog 58 #[.pointer (some ⟨B, 0, none⟩), .int .i64 i] w fun e w' => e = .returned (.tuple #[.int .i64 n, .bool true]) ∧ w = w' := by
  have hi := (List.getElem?_eq_some_iff.1 ha).1
  have HH := has_id B v ns most i w h
  rw [decide_eq_true (by omega : 0 ≤ (i : Int) ∧ (i : Int) < (ns.length : Int))] at HH
  have HH := Lib.hid HH
  obtain ⟨g, cap, rfl, hBg, hgw⟩ := h.form1 (by omega)
  have c0 := h.cell0
  have n0 := h.n0 ha
  rw [hv] at n0
  clear h ha hv
  go_enter Tryd.func58, Tryd.ntmps58
  go_wp2_with fail
  refine HH.out.mono ?_
  rintro e w1 ⟨rfl, rfl⟩
  go_wp2
  go_ret2
  exact ⟨rfl, rfl⟩
theorem up_out (id : Int) (h : TreeAt w B v ns most) (hid : ¬ (0 < id ∧ id < ns.length)) : Calls Tryd.prog 66 #[.pointer (some ⟨B, 0, none⟩), .int .i64 id] w fun e w' => e = .returned (.tuple #[.int .i64 0, .bool false]) ∧ w = w' := by
  have HH := has_id B v ns most id w h
  by_cases h0 : 0 ≤ id ∧ id < (ns.length : Int)
  · obtain rfl : id = 0 := by omega
    rw [decide_eq_true h0] at HH
    have HH := Lib.hid HH
    clear h hid h0
    go_enter Tryd.func66, Tryd.ntmps66
    go_wp2_with fail
    refine HH.out.mono ?_
    rintro e w1 ⟨rfl, rfl⟩
    go_wp2
    go_ret2
    exact ⟨rfl, rfl⟩
  · rw [decide_eq_false h0] at HH
    have HH := Lib.hid HH
    clear h hid h0
    go_enter Tryd.func66, Tryd.ntmps66
    go_wp2_with fail
    refine HH.out.mono ?_
    rintro e w1 ⟨rfl, rfl⟩
    go_wp2
    go_ret2
    exact ⟨rfl, rfl⟩
theorem up_in (i : Nat) (a : ANode) (h : TreeAt w B v ns most) (ha : ns[i]? = some a) (hi0 : 0 < i) (hm : ns.length ≤ 1000000) : Calls Tryd.prog 66 #[.pointer (some ⟨B, 0, none⟩), .int .i64 i] w fun e w' => e = .returned (.tuple #[.int .i64 a.up, .bool true]) ∧ w = w' := by
  have hi := (List.getElem?_eq_some_iff.1 ha).1
  have HH := has_id B v ns most i w h
  rw [decide_eq_true (by omega : 0 ≤ (i : Int) ∧ (i : Int) < (ns.length : Int))] at HH
  have HH := Lib.hid HH
  obtain ⟨g, cap, rfl, hBg, hgw⟩ := h.form1 (by omega)
  have c0 := h.cell0
  have n1 := h.n1 ha
  have t : ((i : Int) == 0) = false := beq_eq_false_iff_ne.2 (by omega)
  clear h ha
  go_enter Tryd.func66, Tryd.ntmps66
  go_wp2_with fail
  refine HH.out.mono ?_
  rintro e w1 ⟨rfl, rfl⟩
  go_wp2
  go_ret2
  exact ⟨rfl, rfl⟩
theorem deep_out (id : Int) (h : TreeAt w B v ns most) (hid : ¬ (0 ≤ id ∧ id < ns.length)) : Calls Tryd.prog 61 #[.pointer (some ⟨B, 0, none⟩), .int .i64 id] w fun e w' => e = .returned (.int .i64 (-1)) ∧ w = w' := by
  have HH := has_id B v ns most id w h
  rw [decide_eq_false hid] at HH
  have HH := Lib.hid HH
  clear h hid
  go_enter Tryd.func61, Tryd.ntmps61
  go_wp2_with fail
  refine HH.out.mono ?_
  rintro e w1 ⟨rfl, rfl⟩
  go_wp2
  go_ret
  exact ⟨rfl, rfl⟩
theorem walk_out (id : Int) (h : TreeAt w B v ns most) (hid : ¬ (0 ≤ id ∧ id < ns.length)) : Calls Tryd.prog 63 #[.pointer (some ⟨B, 0, none⟩), .int .i64 id] w fun e w' => e = .returned (.slice none 0 0) ∧ w = w' := by
  have HH := has_id B v ns most id w h
  rw [decide_eq_false hid] at HH
  have HH := Lib.hid HH
  clear h hid
  go_enter Tryd.func63, Tryd.ntmps63
  go_wp2_with fail
  refine HH.out.mono ?_
  rintro e w1 ⟨rfl, rfl⟩
  go_wp2
  go_ret
  exact ⟨rfl, rfl⟩
theorem kids_out (id : Int) (h : TreeAt w B v ns most) (hid : ¬ (0 ≤ id ∧ id < ns.length)) : Calls Tryd.prog 60 #[.pointer (some ⟨B, 0, none⟩), .int .i64 id] w fun e w' => e = .returned (.slice none 0 0) ∧ w = w' := by
  have HH := has_id B v ns most id w h
  rw [decide_eq_false hid] at HH
  have HH := Lib.hid HH
  clear h hid
  go_enter Tryd.func60, Tryd.ntmps60
  go_wp2_with fail
  refine HH.out.mono ?_
  rintro e w1 ⟨rfl, rfl⟩
  go_wp2
  go_ret
  exact ⟨rfl, rfl⟩
/-- Beneath a number that is not there. -/
theorem add_name (up x : Int) (h : TreeAt w B v ns most) (hid : ¬ (0 ≤ up ∧ up < ns.length)) (h0 : 0 < ns.length ∨ up ≠ -1) (hm : ns.length ≤ 1000000) :
    Calls Tryd.prog 20 #[.pointer (some ⟨B, 0, none⟩), .int .i64 up, .int .i64 x] w fun e w' => e = .returned (.tuple #[.int .i64 0, .iface 109 (.pointer (some ⟨w.heap.size, 0, none⟩))]) ∧ w' = w.alloc (.cells #[.int .i64 30, .int .i64 up, .nilIface] 113) := by
  have HH := has_id B v ns most up w h
  rw [decide_eq_false hid] at HH
  have HH := Lib.hid HH
  have c0 := h.cell0
  obtain ⟨ao, cap, rfl, _⟩ := h.form
  have FA := Lib.hid (fail_any 30 up w)
  by_cases hl : 0 < ns.length
  · have t : decide ((0 : Int) < (ns.length : Int)) = true := decide_eq_true (by omega)
    clear h hid h0
    go_enter Tryd.func20, Tryd.ntmps20
    go_wp2_with fail
    refine HH.out.mono ?_
    rintro e w1 ⟨rfl, rfl⟩
    go_wp2_with fail
    refine FA.out.mono ?_
    rintro e w1 ⟨rfl, rfl⟩
    go_wp2
    go_ret2
    exact ⟨rfl, rfl⟩
  · have t : decide ((0 : Int) < (ns.length : Int)) = false := decide_eq_false (by omega)
    have t2 : (up != -1) = true := bne_iff_ne.2 (h0.resolve_left hl)
    clear h hid h0
    go_enter Tryd.func20, Tryd.ntmps20
    go_wp2_with fail
    refine HH.out.mono ?_
    rintro e w1 ⟨rfl, rfl⟩
    go_wp2_with fail
    refine FA.out.mono ?_
    rintro e w1 ⟨rfl, rfl⟩
    go_wp2
    go_ret2
    exact ⟨rfl, rfl⟩
end
end Go.Proofs.YtmdalkjhlhkloaaDoor
