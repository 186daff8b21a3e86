/- Kid of a tree of numbers. -/
import Derived.Test.YtmdalkjhlhkloaaDoorArena12
namespace Go.Proofs.YtmdalkjhlhkloaaDoor
open Go.RowKit
section
variable (B : Nat) (v : Value) (ns : List ANode) (most : Int) (w : World)
theorem kid_none (id at_ : Int) (h : TreeAt w B v ns most) (hid : ¬ (0 ≤ id ∧ id < ns.length)) : Calls Tryd.prog 65 #[.pointer (some ⟨B, 0, none⟩), .int .i64 id, .int .i64 at_] w fun e w' => e = .returned (.tuple #[.int .i64 0, .bool false]) ∧ w = w' := by
  have HH := has_id B v ns most id w h
  rw [decide_eq_false hid] at HH
  have HH := Lib.hid HH
  clear h hid
  go_enter Tryd.func65, Tryd.ntmps65
  go_wp2_with fail
  refine HH.out.mono ?_
  rintro e w1 ⟨rfl, rfl⟩
  go_wp2
  go_ret2
  exact ⟨rfl, rfl⟩
theorem kid_out (i : Nat) (at_ : Int) (a : ANode) (h : TreeAt w B v ns most) (ha : ns[i]? = some a) (hat : at_ < 0 ∨ a.count ≤ at_) (hm : ns.length ≤ 1000000) : Calls Tryd.prog 65 #[.pointer (some ⟨B, 0, none⟩), .int .i64 i, .int .i64 at_] w fun e w' => e = .returned (.tuple #[.int .i64 0, .bool false]) ∧ w = w' := by
  have hi := (List.getElem?_eq_some_iff.1 ha).1
  have HH := has_id B v ns most i w h
  rw [decide_eq_true (by omega : 0 ≤ (i : Int) ∧ (i : Int) < (ns.length : Int))] at HH
  have HH := Lib.hid HH
  obtain ⟨g, cap, rfl, hBg, hgw⟩ := h.form1 (by omega)
  have c0 := h.cell0
  have n6 := h.n6 ha
  clear h ha
  by_cases h0 : at_ < 0
  · have t0 : decide (at_ < 0) = true := decide_eq_true h0
    clear hat
    go_enter Tryd.func65, Tryd.ntmps65
    go_wp2_with fail
    refine HH.out.mono ?_
    rintro e w1 ⟨rfl, rfl⟩
    go_wp2
    go_ret2
    exact ⟨rfl, rfl⟩
  · have t0 : decide (at_ < 0) = false := decide_eq_false h0
    have t1 : decide (a.count ≤ at_) = true := decide_eq_true (hat.resolve_left h0)
    clear hat h0
    go_enter Tryd.func65, Tryd.ntmps65
    go_wp2_with fail
    refine HH.out.mono ?_
    rintro e w1 ⟨rfl, rfl⟩
    go_wp2
    go_ret2
    exact ⟨rfl, rfl⟩
end
def KidRel (ups : List Nat) (i : Nat) (at_ : Nat) (w : World) (k c : Value) (wr : World) : Prop := wr = w ∧ ∃ j : Nat, c = .int .i64 j ∧ j ≤ at_ ∧ k = .int .i64 (headI ((kids ups i).drop j))
set_option maxRecDepth 100000 in
set_option maxHeartbeats 4000000 in
theorem kid_in (B : Nat) (v : Value) (ns : List ANode) (ups : List Nat) (most : Int) (i at_ x : Nat) (w : World) (h : TreeAt w B v ns most) (hg : GoodN ns ups) (hi : i < ups.length) (hx : (kids ups i)[at_]? = some x) (hm : ns.length ≤ 1000000) :
    Calls Tryd.prog 65 #[.pointer (some ⟨B, 0, none⟩), .int .i64 i, .int .i64 at_] w fun e w' => e = .returned (.tuple #[.int .i64 x, .bool true]) ∧ w = w' := by
  have hlen := hg.len
  have hat := (List.getElem?_eq_some_iff.1 hx).1
  have hkl := kids_le ups i
  have HH := has_id B v ns most i w h
  rw [decide_eq_true (by omega : 0 ≤ (i : Int) ∧ (i : Int) < (ns.length : Int))] at HH
  have HH := Lib.hid HH
  obtain ⟨g, cap, rfl, hBg, hgw⟩ := h.form1 (by omega)
  have c0 := h.cell0
  obtain ⟨a, ha⟩ := get_ex ns i (by omega)
  have n6 := h.n6 ha
  have n2 := h.n2 ha
  rw [hg.count i a ha] at n6
  rw [hg.first i a ha] at n2
  have hin : i < ns.length := by omega
  have t0 : decide ((at_ : Int) < 0) = false := decide_eq_false (by omega)
  have t1 : decide (((kids ups i).length : Int) ≤ (at_ : Int)) = false := decide_eq_false (by omega)
  have H := Lib.hid h; have HG := Lib.hid hg; have HX := Lib.hid hx; have HL := Lib.hid hlen
  have ham : at_ ≤ 1000000 := by omega
  clear h hg ha hx hlen
  go_enter Tryd.func65, Tryd.ntmps65
  go_wp2_with fail
  refine HH.out.mono ?_
  rintro e w1 ⟨rfl, rfl⟩
  go_wp2_with fail
  go_loopw [8, 38] (KidRel ups i at_ w) (fun _ c _ => at_ - (intOf c).toNat)
  case atStart => exact ⟨rfl, 0, rfl, Nat.zero_le _, rfl⟩
  case round =>
    obtain ⟨rfl, j, rfl, hj, rfl⟩ := hrel
    by_cases hlt : j < at_
    · obtain ⟨c, hc⟩ := get_ex (kids ups i) j (by omega)
      have hcm := List.mem_of_getElem? hc
      have hcn : c < ns.length := by rw [HL.out]; exact (mem_kids.1 hcm).2.1
      have hd : (kids ups i).drop j = c :: (kids ups i).drop (j + 1) := by
        rw [List.drop_eq_getElem_cons (by omega), (List.getElem?_eq_some_iff.1 hc).2]
      obtain ⟨b, hb⟩ := get_ex ns c hcn
      have n4 := H.out.n4 hb
      rw [HG.out.next c b hb, next_kid (A := (kids ups i).take j) (B := (kids ups i).drop (j + 1)) (by rw [← hd, List.take_append_drop])] at n4
      rw [hd, headI_cons]
      have R : KidRel ups i at_ wr (.int .i64 (headI ((kids ups i).drop (j + 1)))) (.int .i64 (j + 1)) wr := ⟨rfl, j + 1, by go_num, by omega, rfl⟩
      have HR := Lib.hid R
      clear R hd hb hc n6 n2
      go_wp2
      refine ⟨?_, by simp [intOf]; omega⟩
      have R := HR.out
      first | exact R | ((repeat apply Exists.intro); exact ⟨R, rfl⟩)
    · obtain rfl : j = at_ := by omega
      have hd : (kids ups i).drop j = x :: (kids ups i).drop (j + 1) := by
        rw [List.drop_eq_getElem_cons (by omega), (List.getElem?_eq_some_iff.1 HX.out).2]
      rw [hd, headI_cons]
      clear hd n6 n2
      go_wp2
      go_ret2
      exact ⟨rfl, rfl⟩
end Go.Proofs.YtmdalkjhlhkloaaDoor
