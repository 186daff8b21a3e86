/- One more value, one more list or object, in a parser's memory. -/
import Derived.Test.YtmhfbdeeebbloaaDoorJsM3
namespace Go.Proofs.YtmhfbdeeebbloaaDoor
open Go.RowKit
theorem addN_vals {ns : List ANode} {u : Nat} {v : Value} (hu : u < ns.length) : (addN ns u v).map ANode.val = ns.map ANode.val ++ [v] := by
  obtain ⟨a, ha⟩ := get_ex ns u hu
  have hl := addN_length (v := v) hu
  apply List.ext_getElem?
  intro i
  by_cases hi : i < ns.length
  · obtain ⟨b, hb⟩ := get_ex (addN ns u v) i (by omega)
    rcases addN_get ha i b hb with ⟨e, _⟩ | ⟨_, c, hc, hv, _⟩
    · omega
    · rw [List.getElem?_map, hb, List.getElem?_append_left (by simpa using hi), List.getElem?_map, hc]; simp [hv]
  · by_cases he : i = ns.length
    · subst he
      obtain ⟨b, hb⟩ := get_ex (addN ns u v) ns.length (by omega)
      rcases addN_get ha _ b hb with ⟨_, rfl⟩ | ⟨h, _⟩
      · rw [List.getElem?_map, hb, List.getElem?_append_right (by simp)]; simp
      · omega
    · rw [List.getElem?_eq_none (by simp; omega), List.getElem?_eq_none (by simp; omega)]
theorem wfUps_snoc {ups : List Nat} {u : Nat} (h : WfUps ups) (hu : u < ups.length) : WfUps (ups ++ [u]) := by
  intro i x hi hx
  by_cases hl : i < ups.length
  · rw [List.getElem?_append_left hl] at hx; exact h i x hi hx
  · rw [List.getElem?_append_right (by omega)] at hx
    cases hh : i - ups.length with
    | zero => rw [hh] at hx; simp at hx; omega
    | succ n => rw [hh] at hx; simp at hx
section
variable {w w' : World} {base P D T : Nat} {bv tv tv' sv : Value} {m : Bd} {s : PS} {os : List Nat} {ns ns' : List ANode}
theorem PAt.new (h : PAt w base P D T bv m s tv sv os ns) (ht : TreeAt w' T tv' ns' m.nodes) (ho : Only (TB T tv) w w') {js : List JN} {ups : List Nat} (hg : GoodN ns' ups) (hw : WfUps ups) (hv : ns'.map ANode.val = js.map JN.val) (hne : js ≠ []) :
    PAt w' base P D T bv m ⟨js, ups, s.stack⟩ tv' sv os ns' := by
  have hk : ∀ {k : Nat} {cs : Array Value} {U : TypeId} {f : Nat × Nat}, w.heap[k]? = some (.cells cs U f) → U ≠ 145 → U ≠ 161 → w'.heap[k]? = some (.cells cs U f) := fun {k cs U f} hb h1 h2 => by
    rw [ho.block k (heap_lt hb) (fun e => ?_)]; exact hb
    rcases e with rfl | e
    · exact ne_type hb h.tree.box h1 rfl
    · obtain ⟨cur, hc⟩ := own_type h.tree.own e
      exact ne_type hb hc h2 rfl
  refine ⟨hk h.box (by decide) (by decide), hk h.doc (by decide) (by decide), ht, hg, hw, hv, ?_, h.len, fun i b o hb hs => hk (h.ops i b o hb hs) (by decide) (by decide), h.nd, h.lowP, h.lowD, h.lowT, h.lowO, fun e => absurd e hne⟩
  refine aown_ext h.row (fun g hg => ?_) (Nat.le_refl _)
  obtain ⟨cur, hc⟩ := own_type h.row hg
  rw [hc]; exact hk hc (by decide) (by decide)
/-- A block of another kind stands behind Add as it stood. -/
theorem add_other {X : Nat} {cs : Array Value} {U : TypeId} {f : Nat × Nat} (h : PAt w base P D T bv m s tv sv os ns) (ho : Only (TB T tv) w w') (hX : w.heap[X]? = some (.cells cs U f)) (h1 : U ≠ 145) (h2 : U ≠ 161) : w'.heap[X]? = some (.cells cs U f) := by
  rw [ho.block X (heap_lt hX) (fun e => ?_)]; exact hX
  rcases e with rfl | e
  · exact ne_type hX h.tree.box h1 rfl
  · obtain ⟨cur, hc⟩ := own_type h.tree.own e
    exact ne_type hX hc h2 rfl
/-- One more list, or object. -/
theorem PAt.push {wa w2 : World} {bn : Nat} {o : Op} {sv' : Value} (h : PAt w base P D T bv m s tv sv os ns) (hwa : Below w.heap.size w wa) (hbn : wa.heap[bn]? = some (.cells (opC o) 117 (0, 0))) (hnw : w.heap.size ≤ bn) (hbw : base ≤ w.heap.size) (hg : wa.grownBy w2 sv.ownBlock)
    (hown : w2.ownsRow base 114 1 sv' (os.length + 1) ((os.map ptrV).reverse ++ [ptrV bn])) :
    PAt (w2.setCell ⟨P, 5, none⟩ sv') base P D T bv m { s with stack := o :: s.stack } tv sv' (bn :: os) ns := by
  have hP := h.box
  have hk2 : ∀ {k : Nat} {cs : Array Value} {U : TypeId} {f : Nat × Nat}, wa.heap[k]? = some (.cells cs U f) → U ≠ 114 → w2.heap[k]? = some (.cells cs U f) := fun {k cs U f} hb h1 => by
    rw [hg.block k (heap_lt hb) (fun e => ?_)]; exact hb
    obtain ⟨cur, hc⟩ := own_type h.row e.symm
    have hc' : wa.heap[k]? = some (.cells cur 114 (0, 0)) := by rw [hwa.block k (heap_lt hc)]; exact hc
    exact ne_type hb hc' h1 rfl
  have hk1 : ∀ {k : Nat} {cs : Array Value} {U : TypeId} {f : Nat × Nat}, w.heap[k]? = some (.cells cs U f) → wa.heap[k]? = some (.cells cs U f) := fun {k cs U f} hb => by rw [hwa.block k (heap_lt hb)]; exact hb
  have hk : ∀ {k : Nat} {cs : Array Value} {U : TypeId} {f : Nat × Nat}, w.heap[k]? = some (.cells cs U f) → U ≠ 114 → U ≠ 113 → (w2.setCell ⟨P, 5, none⟩ sv').heap[k]? = some (.cells cs U f) := fun {k cs U f} hb h1 h2 => by
    rw [Below.heap_setCell _ _ _ _ (show k ≠ P from ne_type hb hP h2)]
    exact hk2 (hk1 hb) h1
  have hb2 := hk2 (hk1 hP) (by decide)
  have hnP : bn ≠ P := ne_type hbn (hk1 hP) (by decide)
  refine ⟨?_, hk h.doc (by decide) (by decide), ?_, h.good, h.wf, h.vals, ?_, ?_, fun i c p hci hp => ?_, ?_, h.lowP, h.lowD, h.lowT, fun c hc => ?_, h.nil0⟩
  · have := Go.Joins.block_setCell hb2 (i := 5) sv'
    simpa using this
  · refine h.tree.ext (fun k hl ht => ?_)
    rcases ht with rfl | ht
    · rw [h.tree.box]; exact hk h.tree.box (by decide) (by decide)
    · obtain ⟨cur, hc⟩ := own_type h.tree.own ht
      rw [hc]; exact hk hc (by decide) (by decide)
  · have e1 : (List.map ptrV (bn :: os)).reverse = (os.map ptrV).reverse ++ [ptrV bn] := by simp
    rw [e1]
    refine aown_ext hown (fun g hgg => Below.heap_setCell _ _ _ _ (fun e => ?_)) (Nat.le_refl _)
    obtain ⟨cur, hc⟩ := own_type hown hgg
    simp only at e
    subst e
    exact ne_type hc hb2 (by decide) rfl
  · have := h.len; simp only [List.length_cons]; omega
  · cases i with
    | zero =>
      simp at hci hp
      subst hci; subst hp
      unfold OpAt
      rw [Below.heap_setCell _ _ _ _ hnP]
      exact hk2 hbn (by decide)
    | succ i =>
      simp at hci hp
      exact hk (h.ops i c p hci hp) (by decide) (by decide)
  · refine List.nodup_cons.2 ⟨fun hm => ?_, h.nd⟩
    obtain ⟨i, hi⟩ := List.mem_iff_getElem?.1 hm
    have hil := (List.getElem?_eq_some_iff.1 hi).1
    obtain ⟨p, hp⟩ := get_ex s.stack i (by have := h.len; omega)
    have := heap_lt (h.ops i bn p hi hp)
    omega
  · rcases List.mem_cons.1 hc with rfl | hc
    · omega
    · exact h.lowO c hc
end
/-- No room: the walk of Add. -/
def AddNo (w : World) (e : Ending) (w' : World) : Prop := ∃ u, e = .returned (.tuple #[.int .i64 0, .iface 119 (.pointer (some u))]) ∧ Below w.heap.size w w'
set_option maxRecDepth 100000 in
set_option maxHeartbeats 4000000 in
theorem add_many (B : Nat) (v : Value) (ns : List ANode) (most : Int) (u : Int) (x : JN) (w0 : World) (h0 : TreeAt w0 B v ns most) (hu : 0 ≤ u ∧ u < ns.length ∨ u = -1 ∧ ns = []) (hmost : most ≤ ns.length) :
    Calls Tryd.prog 135 #[.pointer (some ⟨B, 0, none⟩), .int .i64 u, .agg #[.int .i64 x.kind, .string x.key, .string x.text, .int .i64 x.at_]] w0 (AddNo w0) := by
  obtain ⟨w, hbx⟩ : ∃ W, w0.alloc (.cells #[.int .i64 x.kind, .string x.key, .string x.text, .int .i64 x.at_] 58) = W := ⟨_, rfl⟩
  have hb : Below w0.heap.size w0 w := by rw [← hbx]; exact ext_alloc (Below.refl _ _) _
  have h : TreeAt w B v ns most := h0.below hb
  have HH := has_id B v ns most u w h
  have F1 := fails 15 u w
  obtain ⟨ao, cap, rfl, _⟩ := h.form
  have c0 := h.cell0
  have c1 := h.cell1
  have t2 : decide (most ≤ (ns.length : Int)) = true := decide_eq_true hmost
  have HB := Lib.hid hb
  have FF := Lib.hid F1
  have hu' : (decide (0 ≤ u ∧ u < (ns.length : Int)) = true) ∨ (decide (0 ≤ u ∧ u < (ns.length : Int)) = false ∧ ns.length = 0 ∧ (u != -1) = false) := by
    rcases hu with h | ⟨h1, h2⟩
    · exact .inl (decide_eq_true h)
    · exact .inr ⟨decide_eq_false (by omega), by rw [h2]; rfl, by rw [h1]; rfl⟩
  clear h h0 hb F1 hu
  rcases hu' with e | ⟨e, e0, e1⟩
  · rw [e] at HH
    have HH := Lib.hid HH
    clear e
    go_enter Tryd.func135, Tryd.ntmps135
    go_wp2_with fail
    clear hbx
    refine HH.out.mono ?_
    rintro e w1 ⟨rfl, rfl⟩
    go_wp2_with fail
    refine FF.out.mono ?_
    rintro e w2 ⟨q, rfl, hf⟩
    obtain ⟨p, rfl⟩ := hf.form
    have HF := Lib.hid (ext_trans HB.out hf.2)
    clear hf
    go_wp2
    go_ret2
    exact ⟨p, rfl, HF.out⟩
  · rw [e] at HH
    rw [e0] at c0 t2
    have t3 : decide (most ≤ (0 : Int)) = true := t2
    have HH := Lib.hid HH
    clear e e0
    go_enter Tryd.func135, Tryd.ntmps135
    go_wp2_with fail
    clear hbx
    refine HH.out.mono ?_
    rintro e w1 ⟨rfl, rfl⟩
    go_wp2_with fail
    refine FF.out.mono ?_
    rintro e w2 ⟨q, rfl, hf⟩
    obtain ⟨p, rfl⟩ := hf.form
    have HF := Lib.hid (ext_trans HB.out hf.2)
    clear hf
    go_wp2
    go_ret2
    exact ⟨p, rfl, HF.out⟩
end Go.Proofs.YtmhfbdeeebbloaaDoor
