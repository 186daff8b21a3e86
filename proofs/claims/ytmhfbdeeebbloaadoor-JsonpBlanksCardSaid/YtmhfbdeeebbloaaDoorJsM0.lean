/- A parser of JSON in memory. -/
import Derived.Test.YtmhfbdeeebbloaaDoorJT6
import Derived.Test.YtmhfbdeeebbloaaDoorTxt1
import Derived.Maps.AppendAt
namespace Go.Proofs.YtmhfbdeeebbloaaDoor
open Go.RowKit
theorem ne_type {w : World} {a b : Nat} {cs ds : Array Value} {T U : TypeId} {f g : Nat × Nat} (h : w.heap[a]? = some (.cells cs T f)) (k : w.heap[b]? = some (.cells ds U g)) (hT : T ≠ U) : a ≠ b := by
  rintro rfl
  rw [h] at k
  simp only [Option.some.injEq, Obj.cells.injEq] at k
  exact hT k.2.1
theorem own_type {w : World} {base n sz : Nat} {e : TypeId} {v : Value} {xs : List Value} (h : w.ownsRow base e sz v n xs) {g : Nat} (hg : v.ownBlock = some g) : ∃ cur, w.heap[g]? = some (.cells cur e (0, 0)) := by
  rcases h.2 with ⟨rfl, _⟩ | ⟨k, cap, cur, rfl, _, hk, _⟩
  · simp [Value.ownBlock] at hg
  · simp only [Value.ownBlock, Option.some.injEq] at hg
    subst hg
    exact ⟨cur, hk⟩
abbrev ptrV (b : Nat) : Value := .pointer (some ⟨b, 0, none⟩)
def opC (o : Op) : Array Value := #[.int .i64 o.id, .bool o.obj, .int .i64 o.st, .string o.key]
def OpAt (w : World) (b : Nat) (o : Op) : Prop := w.heap[b]? = some (.cells (opC o) 117 (0, 0))
structure PAt (w : World) (base P D T : Nat) (bv : Value) (m : Bd) (s : PS) (tv sv : Value) (os : List Nat) (ns : List ANode) : Prop where
  box : w.heap[P]? = some (.cells #[bv, .int .i64 m.bytes, .int .i64 m.deep, .int .i64 m.nodes, ptrV D, sv] 113 (0, 0))
  doc : w.heap[D]? = some (.cells #[ptrV T] 110 (0, 0))
  tree : TreeAt w T tv ns m.nodes
  good : GoodN ns s.ups
  wf : WfUps s.ups
  vals : ns.map ANode.val = s.js.map JN.val
  row : w.ownsRow base 114 1 sv os.length ((os.map ptrV).reverse)
  len : os.length = s.stack.length
  ops : ∀ (i b : Nat) (o : Op), os[i]? = some b → s.stack[i]? = some o → OpAt w b o
  nd : os.Nodup
  lowP : base ≤ P
  lowD : base ≤ D
  lowT : base ≤ T
  lowO : ∀ b ∈ os, base ≤ b
  nil0 : s.js = [] → tv = .slice none 0 0
theorem heap_lt {w : World} {a : Nat} {o : Obj} (h : w.heap[a]? = some o) : a < w.heap.size := (Array.getElem?_eq_some_iff.1 h).1
section
variable {w w' : World} {base P D T X : Nat} {bv tv sv : Value} {m : Bd} {s : PS} {os : List Nat} {ns : List ANode} {cs : Array Value} {TX : TypeId} {fr : Nat × Nat}
theorem PAt.keep (h : PAt w base P D T bv m s tv sv os ns) (hk : ∀ k, base ≤ k → k < w.heap.size → w'.heap[k]? = w.heap[k]?) : PAt w' base P D T bv m s tv sv os ns := by
  refine ⟨by rw [hk P h.lowP (heap_lt h.box)]; exact h.box, by rw [hk D h.lowD (heap_lt h.doc)]; exact h.doc, h.tree.ext (fun k hl ht => ?_), h.good, h.wf, h.vals, aown_ext h.row (fun g hg => hk g (h.row.lt g hg).1 (h.row.lt g hg).2) (Nat.le_refl _), h.len, fun i b o hb ho => ?_, h.nd, h.lowP, h.lowD, h.lowT, h.lowO, h.nil0⟩
  · refine hk k ?_ hl
    rcases ht with rfl | ht
    · exact h.lowT
    · have := (h.tree.own.lt k ht).1; have := h.lowT; omega
  · have := h.ops i b o hb ho
    unfold OpAt at *
    rw [hk b (h.lowO b (List.mem_of_getElem? hb)) (heap_lt this)]; exact this
theorem PAt.below (h : PAt w base P D T bv m s tv sv os ns) (hb : Below w.heap.size w w') : PAt w' base P D T bv m s tv sv os ns := h.keep (fun k _ hk => hb.block k hk)
theorem PAt.drewN (h : PAt w base P D T bv m s tv sv os ns) (n : Nat) : PAt (w.drewN n) base P D T bv m s tv sv os ns := h.keep (fun _ _ _ => rfl)
theorem PAt.tree_keep (h : PAt w base P D T bv m s tv sv os ns) (hX : w.heap[X]? = some (.cells cs TX fr)) (hk : ∀ k, k ≠ X → w'.heap[k]? = w.heap[k]?) (h1 : TX ≠ 145) (h2 : TX ≠ 161) : TreeAt w' T tv ns m.nodes :=
  h.tree.ext (fun k _ ht => hk k (by
    rcases ht with rfl | ht
    · exact (ne_type hX h.tree.box h1).symm
    · obtain ⟨cur, hc⟩ := own_type h.tree.own ht
      exact (ne_type hX hc h2).symm))
theorem PAt.row_keep (h : PAt w base P D T bv m s tv sv os ns) (hX : w.heap[X]? = some (.cells cs TX fr)) (hk : ∀ k, k ≠ X → w'.heap[k]? = w.heap[k]?) (h1 : TX ≠ 114) : w'.ownsRow base 114 1 sv os.length ((os.map ptrV).reverse) :=
  aown_ext h.row (fun g hg => hk g (by obtain ⟨cur, hc⟩ := own_type h.row hg; exact (ne_type hX hc h1).symm)) (Nat.le_refl _)
/-- The top's cells. -/
theorem PAt.top (h : PAt w base P D T bv m s tv sv os ns) {o : Op} {r : List Op} (hs : s.stack = o :: r) : ∃ b q, os = b :: q ∧ OpAt w b o := by
  have hl := h.len
  rw [hs] at hl
  cases os with
  | nil => simp at hl
  | cons b q => exact ⟨b, q, rfl, h.ops 0 b o rfl (by rw [hs]; rfl)⟩
/-- The top's state, or key, turns. -/
theorem PAt.setTop {b : Nat} {q : List Nat} {o o' : Op} {r : List Op} {j : Nat} {u : Value} (h : PAt w base P D T bv m s tv sv (b :: q) ns) (hs : s.stack = o :: r) (hc : opC o' = (opC o).setIfInBounds j u) :
    PAt (w.setCell ⟨b, j, none⟩ u) base P D T bv m { s with stack := o' :: r } tv sv (b :: q) ns := by
  have hb : OpAt w b o := h.ops 0 b o rfl (by rw [hs]; rfl)
  have hk : ∀ k, k ≠ b → (w.setCell ⟨b, j, none⟩ u).heap[k]? = w.heap[k]? := fun k hk => Below.heap_setCell _ _ _ _ hk
  refine ⟨?_, ?_, h.tree_keep hb hk (by decide) (by decide), h.good, h.wf, h.vals, h.row_keep hb hk (by decide), ?_, fun i c p hci hp => ?_, h.nd, h.lowP, h.lowD, h.lowT, h.lowO, h.nil0⟩
  · rw [hk P (ne_type h.box hb (by decide))]; exact h.box
  · rw [hk D (ne_type h.doc hb (by decide))]; exact h.doc
  · have := h.len; rw [hs] at this; simpa using this
  · cases i with
    | zero =>
      simp at hci hp
      subst hci; subst hp
      have := Go.Joins.block_setCell hb (i := j) u
      unfold OpAt
      rw [hc]; simpa using this
    | succ i =>
      simp at hci hp
      have hcb : c ≠ b := fun e => by
        have := h.nd
        rw [List.nodup_cons] at this
        exact this.1 (e ▸ List.mem_of_getElem? hci)
      unfold OpAt
      rw [hk c hcb]
      exact h.ops (i + 1) c p (by simpa using hci) (by rw [hs]; simpa using hp)
/-- The last one goes. -/
theorem PAt.popTop {b : Nat} {q : List Nat} {o : Op} {r : List Op} {g cap n : Nat} (h : PAt w base P D T bv m s tv (.slice (some ⟨g, 0, none⟩) n cap) (b :: q) ns) (hs : s.stack = o :: r) (hn : n = q.length + 1) :
    PAt (w.setCell ⟨P, 5, none⟩ (.slice (some ⟨g, 0, none⟩) q.length cap)) base P D T bv m { s with stack := r } tv (.slice (some ⟨g, 0, none⟩) q.length cap) q ns := by
  have hk : ∀ k, k ≠ P → (w.setCell ⟨P, 5, none⟩ (.slice (some ⟨g, 0, none⟩) q.length cap)).heap[k]? = w.heap[k]? := fun k hk => Below.heap_setCell _ _ _ _ hk
  have hrow := h.row_keep h.box hk (by decide)
  refine ⟨?_, ?_, h.tree_keep h.box hk (by decide) (by decide), h.good, h.wf, h.vals, ?_, ?_, fun i c p hci hp => ?_, (List.nodup_cons.1 h.nd).2, h.lowP, h.lowD, h.lowT, fun c hc => h.lowO c (List.mem_cons_of_mem _ hc), h.nil0⟩
  · have := Go.Joins.block_setCell h.box (i := 5) (.slice (some ⟨g, 0, none⟩) q.length cap)
    simpa using this
  · rw [hk D (ne_type h.doc h.box (by decide))]; exact h.doc
  · rcases hrow.2 with ⟨e, _⟩ | ⟨g', cap', cur, e, h1, h2, h3, h4, h5, h6⟩
    · cases e
    · cases e
      refine ⟨by simp, .inr ⟨_, _, cur, rfl, h1, h2, by simp at h3; omega, h4, h5, ?_⟩⟩
      have := congrArg (List.take q.length) h6
      simp only [List.take_take, List.length_cons, Nat.mul_one, List.map_cons, List.reverse_cons] at this
      rw [Nat.min_eq_left (by omega), List.take_append_of_le_length (by simp)] at this
      rw [Nat.mul_one, this, List.take_of_length_le (by simp)]
  · have := h.len; rw [hs] at this; simpa using this
  · have hop := h.ops (i + 1) c p (by simpa using hci) (by rw [hs]; simpa using hp)
    unfold OpAt at *
    rw [hk c (ne_type hop h.box (by decide))]; exact hop
end
end Go.Proofs.YtmhfbdeeebbloaaDoor
