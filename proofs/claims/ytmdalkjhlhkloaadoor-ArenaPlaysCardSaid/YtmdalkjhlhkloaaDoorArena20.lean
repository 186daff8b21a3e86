/- Two trees that are one: the law's 'same'. -/
import Derived.Test.YtmdalkjhlhkloaaDoorArena19
import Derived.Test.YtmdalkjhlhkloaaDoorArena17
import Derived.Test.YtmdalkjhlhkloaaDoorArena18
import Derived.Test.YtmdalkjhlhkloaaDoorArena7
import Derived.Test.YtmdalkjhlhkloaaDoorArena6
namespace Go.Proofs.YtmdalkjhlhkloaaDoor
open Go.RowKit
/-- The program's tree at block B and the document's at block R hold the same. -/
structure Twin (w : World) (B : Nat) (v : Value) (ns : List ANode) (R : Nat) (vV vU : Value) (vs us : List Int) (most : Int) (ups : List Nat) : Prop where
  t : TreeAt w B v ns most
  m : RTreeAt w R vV vU vs us most
  good : GoodN ns ups
  wf : WfUps ups
  rups : RUps us ups
  vals : ns.map (·.val) = vs.map (Value.int .i64)
  len : vs.length = ups.length
  small : ups.length ≤ 1000000
section
variable {w w' : World} {B R : Nat} {v vV vU : Value} {ns : List ANode} {vs us : List Int} {most : Int} {ups : List Nat}
theorem Twin.below (h : Twin w B v ns R vV vU vs us most ups) (hb : Below w.heap.size w w') : Twin w' B v ns R vV vU vs us most ups :=
  ⟨h.t.below hb, h.m.below hb, h.good, h.wf, h.rups, h.vals, h.len, h.small⟩
theorem Twin.nlen (h : Twin w B v ns R vV vU vs us most ups) : ns.length = ups.length := h.good.len
theorem Twin.val (h : Twin w B v ns R vV vU vs us most ups) {i : Nat} {a : ANode} (ha : ns[i]? = some a) : ∃ n, vs[i]? = some n ∧ a.val = .int .i64 n := by
  have h1 := congrArg (fun l => l[i]?) h.vals
  simp only [List.getElem?_map, ha, Option.map_some] at h1
  cases hv : vs[i]? with
  | none => rw [hv] at h1; cases h1
  | some n => rw [hv] at h1; exact ⟨n, rfl, Option.some.inj h1⟩
theorem RTreeAt.valCell {g n cap : Nat} (h : RTreeAt w B (.slice (some ⟨g, 0, none⟩) n cap) vU vs us most) (hn : vs.length = n) {i : Nat} {x : Int} (hx : vs[i]? = some x) : w.cell? ⟨g, i, none⟩ = some (.int .i64 x) := by
  subst hn
  have hi := (List.getElem?_eq_some_iff.1 hx).1
  rw [h.ownV.cellAt i (by omega), List.getElem?_map, hx]; rfl
theorem RTreeAt.formV (h : RTreeAt w B vV vU vs us most) (h0 : 0 < vs.length) : ∃ g cap, vV = .slice (some ⟨g, 0, none⟩) vs.length cap := by
  obtain ⟨ao, cap, rfl, hf⟩ := aown_form h.ownV
  rcases hf with ⟨h1, _⟩ | ⟨g, rfl, _⟩
  · omega
  · exact ⟨g, cap, rfl⟩
theorem RTreeAt.formU (h : RTreeAt w B vV vU vs us most) (h0 : 0 < us.length) : ∃ g cap, vU = .slice (some ⟨g, 0, none⟩) us.length cap := by
  obtain ⟨ao, cap, rfl, hf⟩ := aown_form h.ownU
  rcases hf with ⟨h1, _⟩ | ⟨g, rfl, _⟩
  · omega
  · exact ⟨g, cap, rfl⟩
end
theorem ints_nil {T : Nat → Prop} {w : World} {a : Option Addr} {c : Nat} (h : a = none → c = 0) : Rd T w (.slice a 0 c) (S.intsD []) := .list0 a c 1 h
def SaRel (n : Nat) (w : World) (i : Value) (wr : World) : Prop := ∃ j : Nat, i = .int .i64 j ∧ j ≤ n ∧ Below w.heap.size w wr
set_option maxRecDepth 100000 in
set_option maxHeartbeats 32000000 in
theorem same_out (B R : Nat) (v vV vU : Value) (ns : List ANode) (vs us : List Int) (most : Int) (ups : List Nat) (id : Int) (w : World) (h : Twin w B v ns R vV vU vs us most ups) (hid : ¬ (0 ≤ id ∧ id < ns.length)) :
    Calls Tryd.prog 23 #[.pointer (some ⟨B, 0, none⟩), .pointer (some ⟨R, 0, none⟩), .int .i64 id] w fun e w' => e = .returned (.bool true) ∧ Below w.heap.size w w' := by
  have hln : ns.length = vs.length := by rw [h.nlen, h.len]
  have hidv : ¬ (0 ≤ id ∧ id < vs.length) := by rw [← hln]; exact hid
  have K1 := Lib.hid (value_out B v ns most w id h.t hid)
  have K2 := Lib.hid (fun W (hW : Below w.heap.size w W) => by have := rhas_any R vV vU vs us most id W (h.m.below hW); rw [decide_eq_false hidv] at this; exact this)
  have K3 := Lib.hid (rkids_out R vV vU vs us most id w h.m hidv (by rw [h.len]; exact h.small))
  have K4 := Lib.hid (fun W (hW : Below w.heap.size w W) => kids_out B v ns most W id (h.t.below hW) hid)
  have K5 := Lib.hid (fun W (hW : Below w.heap.size w W) => deep_out B v ns most W id (h.t.below hW) hid)
  have K6 := Lib.hid (fun W (hW : Below w.heap.size w W) => rdeep_out R vV vU vs us most id W (h.m.below hW) hidv)
  have K7 := Lib.hid (fun W (hW : Below w.heap.size w W) => walk_out B v ns most W id (h.t.below hW) hid)
  have K8 := Lib.hid (fun W (hW : Below w.heap.size w W) => rwalk_out R vV vU vs us most id W (h.m.below hW) hidv)
  have K9 := Lib.hid (fun (q : Int) W (hW : Below w.heap.size w W) => kid_none B v ns most W id q (h.t.below hW) hid)
  have K10 := Lib.hid (fun W (hW : Below w.heap.size w W) => up_out B v ns most W id (h.t.below hW) (by omega))
  have KS := Lib.hid (fun (a1 a2 : Option Addr) (c1 c2 : Nat) (W : World) (h1 : a1 = none → c1 = 0) (h2 : a2 = none → c2 = 0) => sameI_any (S1 := fun _ => True) (S2 := fun _ => True) (.slice a1 0 c1) (.slice a2 0 c2) [] W (ints_nil h1) (ints_nil h2) (by simp))
  clear h hln hid hidv
  go_enter Tryd.func23, Tryd.ntmps23
  go_wp2_with fail
  refine K1.out.mono ?_
  rintro e w1 ⟨rfl, rfl⟩
  go_wp2_with fail
  refine (K2.out _ (Below.refl _ _)).mono ?_
  rintro e w1 ⟨rfl, rfl⟩
  go_wp2_with fail
  refine K3.out.mono ?_
  rintro e w1 ⟨rfl, hb1⟩
  have HB1 := Lib.hid hb1; clear hb1
  go_wp2_with fail
  refine (K4.out _ HB1.out).mono ?_
  rintro e w2 ⟨rfl, rfl⟩
  go_wp2_with fail
  refine (KS.out none (some ⟨w.heap.size, 0, none⟩) 0 0 w1 (fun _ => rfl) (fun h => by cases h)).mono ?_
  rintro e w2 ⟨rfl, hb2⟩
  have HB2 := Lib.hid (ext_trans HB1.out hb2); clear hb2
  go_wp2_with fail
  refine (K5.out _ HB2.out).mono ?_
  rintro e w3 ⟨rfl, rfl⟩
  go_wp2_with fail
  refine (K6.out _ HB2.out).mono ?_
  rintro e w3 ⟨rfl, rfl⟩
  go_wp2_with fail
  refine (K7.out _ HB2.out).mono ?_
  rintro e w3 ⟨rfl, rfl⟩
  go_wp2_with fail
  refine (K8.out _ HB2.out).mono ?_
  rintro e w3 ⟨rfl, hb3⟩
  have HB3 := Lib.hid (ext_trans HB2.out hb3); clear hb3
  go_wp2_with fail
  refine (KS.out none (some ⟨w2.heap.size, 0, none⟩) 0 0 w3 (fun _ => rfl) (fun h => by cases h)).mono ?_
  rintro e w4 ⟨rfl, hb4⟩
  have HB4 := Lib.hid (ext_trans HB3.out hb4); clear hb4
  go_wp2_with fail
  go_loopw [82] (SaRel 0 w) (fun i _ => 0 - (intOf i).toNat)
  case atStart => exact ⟨0, rfl, Nat.le_refl _, HB4.out⟩
  case round =>
    obtain ⟨j, rfl, hj, hb⟩ := hrel
    obtain rfl : j = 0 := by omega
    have HBB := Lib.hid hb; clear hb
    go_wp2_with fail
    refine (K9.out _ _ HBB.out).mono ?_
    rintro e w5 ⟨rfl, rfl⟩
    go_wp2_with fail
    refine (K9.out _ _ HBB.out).mono ?_
    rintro e w5 ⟨rfl, rfl⟩
    go_wp2_with fail
    refine (K10.out _ HBB.out).mono ?_
    rintro e w5 ⟨rfl, rfl⟩
    by_cases hp : 0 < id
    · have t1 : decide ((0 : Int) < id) = true := decide_eq_true hp
      go_wp2_with fail
      refine (K2.out _ HBB.out).mono ?_
      rintro e w6 ⟨rfl, rfl⟩
      go_wp2
      go_ret
      exact ⟨rfl, HBB.out⟩
    · have t1 : decide ((0 : Int) < id) = false := decide_eq_false hp
      go_wp2
      go_ret
      exact ⟨rfl, HBB.out⟩
end Go.Proofs.YtmdalkjhlhkloaaDoor
