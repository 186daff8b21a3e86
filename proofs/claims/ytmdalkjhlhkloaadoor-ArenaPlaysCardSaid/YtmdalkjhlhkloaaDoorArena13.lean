/- The document's tree: how deep a number is. -/
import Derived.Test.YtmdalkjhlhkloaaDoorArena11
namespace Go.Proofs.YtmdalkjhlhkloaaDoor
open Go.RowKit
/-- The numbers above, as the document keeps them. -/
structure RUps (us : List Int) (ups : List Nat) : Prop where
  len : us.length = ups.length
  up : ∀ (i u : Nat), 0 < i → ups[i]? = some u → us[i]? = some (u : Int)
  zero : us[0]? = none ∨ us[0]? = some (-1)
def RdpRel (ns : List ANode) (a : ANode) (w : World) (id n : Value) (wr : World) : Prop := wr = w ∧ ∃ (k : Nat) (b : ANode) (m : Int), id = .int .i64 k ∧ n = .int .i64 m ∧ ns[k]? = some b ∧ m + b.deep = a.deep ∧ 0 ≤ m
set_option maxRecDepth 100000 in
set_option maxHeartbeats 4000000 in
theorem rdeep_in (B : Nat) (vV vU : Value) (vs us : List Int) (most : Int) (ns : List ANode) (ups : List Nat) (i : Nat) (a : ANode) (w : World) (h : RTreeAt w B vV vU vs us most) (hvl : vs.length = ups.length) (hr : RUps us ups) (hg : GoodN ns ups) (hw : WfUps ups) (ha : ns[i]? = some a) (hm : ups.length ≤ 1000000) :
    Calls Tryd.prog 62 #[.pointer (some ⟨B, 0, none⟩), .int .i64 i] w fun e w' => e = .returned (.int .i64 a.deep) ∧ w = w' := by
  have hi : i < ups.length := by rw [← hg.len]; exact (List.getElem?_eq_some_iff.1 ha).1
  have HH := rhas_any B vV vU vs us most i w h
  rw [decide_eq_true (by omega : 0 ≤ (i : Int) ∧ (i : Int) < (vs.length : Int))] at HH
  have HH := Lib.hid HH
  have hd := deep_le hg hw i a ha
  have c1 := h.cell1
  obtain ⟨ao, cap, rfl, hf⟩ := aown_form h.ownU
  obtain ⟨g, rfl, hBg, hgw⟩ : ∃ g, ao = some ⟨g, 0, none⟩ ∧ B + 1 ≤ g ∧ g < w.heap.size := by
    rcases hf with ⟨h0, _⟩ | h0
    · have := hr.len; omega
    · exact h0
  have H := Lib.hid h; have HR := Lib.hid hr; have HG := Lib.hid hg; have HW := Lib.hid hw; have HA := Lib.hid ha; have HL := Lib.hid hr.len
  have hul : us.length ≤ 1000000 := by have := hr.len; omega
  clear h hr hg hw ha hf hvl
  go_enter Tryd.func62, Tryd.ntmps62
  go_wp2_with fail
  refine HH.out.mono ?_
  rintro e w1 ⟨rfl, rfl⟩
  go_wp2_with fail
  go_loopw [1, 5] (RdpRel ns a w) (fun id _ _ => (intOf id).toNat)
  case atStart => exact ⟨rfl, i, a, 0, rfl, rfl, HA.out, by omega, by omega⟩
  case round =>
    obtain ⟨rfl, k, b, m, rfl, rfl, hb, hmd, hm0⟩ := hrel
    have hk : k < ups.length := by rw [← HG.out.len]; exact (List.getElem?_eq_some_iff.1 hb).1
    by_cases h0 : k = 0
    · subst h0
      have hz := HG.out.deep0 b hb
      obtain rfl : m = a.deep := by omega
      clear hmd hb hz
      go_wp2
      go_ret
      exact ⟨rfl, rfl⟩
    · obtain ⟨u, hu⟩ := get_ex ups k hk
      have hlt := HW.out k u (by omega) hu
      obtain ⟨b2, hb2⟩ := get_ex ns u (by rw [HG.out.len]; omega)
      have hdd := HG.out.deep k u b b2 (by omega) hu hb hb2
      have x0 := H.out.upCell rfl (HR.out.up k u (by omega) hu)
      have hd2 := deep_le HG.out HW.out u b2 hb2
      have hkl : k < us.length := by rw [HL.out]; exact hk
      have t : decide ((0 : Int) < (k : Int)) = true := decide_eq_true (by omega)
      have R : RdpRel ns a wr (.int .i64 u) (.int .i64 (m + 1)) wr := ⟨rfl, u, b2, m + 1, rfl, rfl, hb2, by omega, by omega⟩
      have hmb : m ≤ 1000000 := by omega
      have HRR := Lib.hid R
      clear R hb hb2 hu hdd hmd
      go_wp2
      refine ⟨?_, by simp [intOf]; omega⟩
      have R := HRR.out
      first | exact R | ((repeat apply Exists.intro); exact ⟨R, rfl⟩)
end Go.Proofs.YtmdalkjhlhkloaaDoor
