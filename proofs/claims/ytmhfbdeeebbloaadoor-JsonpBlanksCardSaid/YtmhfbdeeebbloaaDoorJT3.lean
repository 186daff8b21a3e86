/- One more node: the walk of Add, where there is room and the number above is there. -/
import Derived.Test.YtmhfbdeeebbloaaDoorJT2
namespace Go.Proofs.YtmhfbdeeebbloaaDoor
open Go.RowKit
section
variable {w : World} {B g n cap : Nat} {ns : List ANode} {most : Int}
theorem TreeAt.set (h : TreeAt w B (.slice (some ⟨g, 0, none⟩) n cap) ns most) (hn : ns.length = n) {i j : Nat} {a b : ANode} {x : Value} (hi : ns[i]? = some a) (hj : j < 10) (he : jcells b = (jcells a).set j x) :
    TreeAt (w.setCell ⟨g, i * 10 + j, none⟩ x) B (.slice (some ⟨g, 0, none⟩) n cap) (ns.set i b) most := by
  subst hn
  have hl := h.own.lt g rfl
  refine ⟨by rw [Below.heap_setCell _ _ _ _ (show B ≠ g by omega)]; exact h.box, ?_⟩
  rw [List.length_set]
  exact row_store jcells_length h.own hi hj he
theorem TreeAt.nd (h : TreeAt w B (.slice (some ⟨g, 0, none⟩) n cap) ns most) (hn : ns.length = n) {i : Nat} {a : ANode} (hi : ns[i]? = some a) (j : Nat) (hj : j < 10) : w.cell? ⟨g, i * 10 + j, none⟩ = (jcells a)[j]? := by
  subst hn; exact h.node hi j hj
theorem TreeAt.frozen (h : TreeAt w B (.slice (some ⟨g, 0, none⟩) n cap) ns most) (hn : ns.length = n) (j : Nat) : w.frozen? ⟨g, j, none⟩ = false := by
  subst hn; exact h.own.frozenAt j
theorem TreeAt.frozenB {v : Value} (h : TreeAt w B v ns most) (j : Nat) : w.frozen? ⟨B, j, none⟩ = false := frozen_of_row w B j _ _ h.box
end
theorem deep_le {ns : List ANode} {ups : List Nat} (hg : GoodN ns ups) (hw : WfUps ups) : ∀ (i : Nat) (a : ANode), ns[i]? = some a → 0 ≤ a.deep ∧ a.deep ≤ i
  | 0, a, h => by rw [hg.deep0 a h]; simp
  | i + 1, a, h => by
    have hi : i + 1 < ups.length := by rw [← hg.len]; exact (List.getElem?_eq_some_iff.1 h).1
    obtain ⟨u, hu⟩ := get_ex ups (i + 1) hi
    have hlt := hw (i + 1) u (by omega) hu
    obtain ⟨b, hb⟩ := get_ex ns u (by rw [hg.len]; omega)
    have := deep_le hg hw u b hb
    rw [hg.deep (i + 1) u a b (by omega) hu h hb]
    omega
termination_by i => i
theorem kids_le (ups : List Nat) (i : Nat) : (kids ups i).length ≤ ups.length := by
  have := List.length_filter_le (fun j => decide (ups[j]? = some i)) (List.range' 1 (ups.length - 1))
  unfold kids
  simp at this ⊢
  omega
theorem lastI_cases {ups : List Nat} (hw : WfUps ups) (u : Nat) : lastI (kids ups u) = -1 ∨ ∃ l : Nat, lastI (kids ups u) = l ∧ l < ups.length ∧ u < l := by
  by_cases h : kids ups u = []
  · left; rw [h]; rfl
  · right
    obtain ⟨A, k, hk⟩ := last_split h
    refine ⟨k, by rw [hk, lastI_snoc], ?_⟩
    have hm : k ∈ kids ups u := by rw [hk]; simp
    exact ⟨(mem_kids.1 hm).2.1, kids_gt hw hm⟩
theorem modify_set {α : Type} (l : List α) (i : Nat) (f : α → α) (a : α) (h : l[i]? = some a) : l.modify i f = l.set i (f a) := by
  apply List.ext_getElem?
  intro j
  rw [List.getElem?_modify]
  by_cases e : i = j
  · subst e
    rw [h, List.getElem?_set_self (List.getElem?_eq_some_iff.1 h).1]; simp
  · rw [List.getElem?_set_ne e]; simp [e]
theorem addN_first {ns : List ANode} {u : Nat} {v : Value} {a : ANode} (ha : ns[u]? = some a) (hl : a.last = -1) :
    addN ns u v = ((((ns.set u { a with first := ns.length }).set u { a with first := ns.length, last := ns.length }).set u { a with first := ns.length, last := ns.length, count := a.count + 1 }) ++ [⟨v, u, -1, -1, -1, a.deep + 1, 0⟩]) := by
  have hu := (List.getElem?_eq_some_iff.1 ha).1
  simp only [addN, ha]
  rw [if_pos hl, modify_set _ u _ { a with first := ns.length } (List.getElem?_set_self hu)]
  simp
theorem addN_next {ns : List ANode} {u l : Nat} {v : Value} {a b : ANode} (ha : ns[u]? = some a) (hl : a.last = l) (hb : ns[l]? = some b) (hne : u ≠ l) :
    addN ns u v = ((((ns.set l { b with next := ns.length }).set u { a with last := ns.length }).set u { a with last := ns.length, count := a.count + 1 }) ++ [⟨v, u, -1, -1, -1, a.deep + 1, 0⟩]) := by
  simp only [addN, ha, hl]
  rw [if_neg (by omega), Int.toNat_natCast, modify_set _ l _ b hb, modify_set _ u _ a (by rw [List.getElem?_set_ne (fun e => hne e.symm)]; exact ha)]
  simp
end Go.Proofs.YtmhfbdeeebbloaaDoor
