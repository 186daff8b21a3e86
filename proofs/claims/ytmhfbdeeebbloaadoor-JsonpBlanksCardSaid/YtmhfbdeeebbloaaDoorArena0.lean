/- Trees told by the numbers above: plain lists. Nothing of the program. -/
import Derived.Test.YtmhfbdeeebbloaaDoorLib0
namespace Go.Proofs.YtmhfbdeeebbloaaDoor
open Go.RowKit
structure ANode where
  val : Value
  up : Int
  first : Int
  last : Int
  next : Int
  deep : Int
  count : Int
def ANode.cells (a : ANode) : List Value := [a.val, .int .i64 a.up, .int .i64 a.first, .int .i64 a.last, .int .i64 a.next, .int .i64 a.deep, .int .i64 a.count]
theorem ANode.cells_length (a : ANode) : a.cells.length = 7 := rfl
/-- Each number but the root has a smaller one above it. -/
def WfUps (ups : List Nat) : Prop := ∀ i u, 0 < i → ups[i]? = some u → u < i
/-- The numbers right beneath one, in order. -/
def kids (ups : List Nat) (i : Nat) : List Nat := (List.range' 1 (ups.length - 1)).filter fun j => decide (ups[j]? = some i)
def headI (l : List Nat) : Int := match l.head? with | some x => x | none => -1
def lastI (l : List Nat) : Int := match l.getLast? with | some x => x | none => -1
def nextK (ups : List Nat) (i : Nat) : Int := match ups[i]? with
  | some u => if i = 0 then -1 else headI ((kids ups u).filter fun j => decide (i < j))
  | none => -1
theorem mem_kids {ups : List Nat} {i j : Nat} : j ∈ kids ups i ↔ 0 < j ∧ j < ups.length ∧ ups[j]? = some i := by
  simp [kids, List.mem_range'_1]
  constructor
  · rintro ⟨⟨h1, h2⟩, h3⟩; exact ⟨by omega, by omega, h3⟩
  · rintro ⟨h1, h2, h3⟩; exact ⟨⟨by omega, by omega⟩, h3⟩
theorem kids_gt {ups : List Nat} (hw : WfUps ups) {i j : Nat} (h : j ∈ kids ups i) : i < j := hw j i (mem_kids.1 h).1 (mem_kids.1 h).2.2
theorem kids_sorted (ups : List Nat) (i : Nat) : (kids ups i).Pairwise (· < ·) := (List.pairwise_lt_range' (s := 1) (n := ups.length - 1)).filter _
theorem kids_snoc (ups : List Nat) (u i : Nat) (h0 : 0 < ups.length) : kids (ups ++ [u]) i = kids ups i ++ if u = i then [ups.length] else [] := by
  have e : List.range' 1 ((ups ++ [u]).length - 1) = List.range' 1 (ups.length - 1) ++ [ups.length] := by
    have : (ups ++ [u]).length - 1 = (ups.length - 1) + 1 := by simp; omega
    rw [this, List.range'_concat]; congr 2; omega
  rw [kids, e, List.filter_append, kids]
  congr 1
  · apply List.filter_congr
    intro j hj
    have : j < ups.length := by have := List.mem_range'_1.1 hj; omega
    rw [List.getElem?_append_left this]
  · by_cases h : u = i
    · subst h; simp
    · simp [h]
/-- What the nodes are, told by the numbers above. -/
structure GoodN (ns : List ANode) (ups : List Nat) : Prop where
  len : ns.length = ups.length
  first : ∀ i a, ns[i]? = some a → a.first = headI (kids ups i)
  last : ∀ i a, ns[i]? = some a → a.last = lastI (kids ups i)
  next : ∀ i a, ns[i]? = some a → a.next = nextK ups i
  count : ∀ i a, ns[i]? = some a → a.count = ((kids ups i).length : Int)
  up : ∀ (i u : Nat) (a : ANode), 0 < i → ups[i]? = some u → ns[i]? = some a → a.up = (u : Int)
  up0 : ∀ a, ns[0]? = some a → a.up = -1
  deep0 : ∀ a, ns[0]? = some a → a.deep = 0
  deep : ∀ (i u : Nat) (a b : ANode), 0 < i → ups[i]? = some u → ns[i]? = some a → ns[u]? = some b → a.deep = b.deep + 1
def root (v : Value) : ANode := ⟨v, -1, -1, -1, -1, 0, 0⟩
theorem goodN_root (v : Value) : GoodN [root v] [0] := by
  constructor
  · rfl
  all_goals intro i
  · intro a h; cases i <;> simp at h; subst h; rfl
  · intro a h; cases i <;> simp at h; subst h; rfl
  · intro a h; cases i <;> simp at h; subst h; rfl
  · intro a h; cases i <;> simp at h; subst h; rfl
  · intro u a h0 h; cases i <;> simp at h0 h
  · intro h; simp at h; subst h; rfl
  · intro h; simp at h; subst h; rfl
  · intro u a b h0 h; cases i <;> simp at h0 h
/-- One more node beneath u. -/
def addN (ns : List ANode) (u : Nat) (v : Value) : List ANode := match ns[u]? with
  | none => ns
  | some a =>
    let ns1 := if a.last = -1 then ns.set u { a with first := ns.length } else ns.modify a.last.toNat fun b => { b with next := ns.length }
    (ns1.modify u fun b => { b with last := ns.length, count := b.count + 1 }) ++ [⟨v, u, -1, -1, -1, a.deep + 1, 0⟩]
theorem headI_nil : headI [] = -1 := rfl
theorem headI_cons (x : Nat) (l : List Nat) : headI (x :: l) = x := rfl
theorem headI_append (l m : List Nat) : headI (l ++ m) = if l = [] then headI m else headI l := by
  cases l <;> simp [headI]
theorem lastI_snoc (l : List Nat) (x : Nat) : lastI (l ++ [x]) = x := by simp [lastI]
theorem lastI_neg {l : List Nat} : lastI l = -1 ↔ l = [] := by
  unfold lastI
  cases h : l.getLast? with
  | none => simp at h; simp [h]
  | some x =>
    constructor
    · intro e; simp only at e; omega
    · intro e; subst e; simp at h
theorem headI_neg {l : List Nat} : headI l = -1 ↔ l = [] := by
  cases l with
  | nil => simp [headI]
  | cons x l =>
    constructor
    · intro e; simp only [headI, List.head?_cons] at e; omega
    · intro e; cases e

/-! ### A number and all beneath it -/
def pre (ups : List Nat) : Nat → Nat → List Nat
  | 0, _ => []
  | f + 1, i => i :: (kids ups i).flatMap (pre ups f)
theorem pre_range {ups : List Nat} (hw : WfUps ups) : ∀ (f i j : Nat), i < ups.length → j ∈ pre ups f i → i ≤ j ∧ j < ups.length
  | 0, i, j, _, h => by simp [pre] at h
  | f + 1, i, j, hi, h => by
    simp only [pre, List.mem_cons, List.mem_flatMap] at h
    rcases h with rfl | ⟨c, hc, hj⟩
    · exact ⟨Nat.le_refl _, hi⟩
    · have := kids_gt hw hc
      have := pre_range hw f c j (mem_kids.1 hc).2.1 hj
      exact ⟨by omega, this.2⟩
theorem pre_head {ups : List Nat} {f i : Nat} (hf : ups.length - i ≤ f) (hi : i < ups.length) : i ∈ pre ups f i := by
  cases f with
  | zero => omega
  | succ f => simp [pre]
theorem pre_closed {ups : List Nat} (hw : WfUps ups) : ∀ (f i k c : Nat), ups.length - i ≤ f → k ∈ pre ups f i → c ∈ kids ups k → c ∈ pre ups f i
  | 0, i, k, c, _, hk, _ => by simp [pre] at hk
  | f + 1, i, k, c, hf, hk, hc => by
    simp only [pre, List.mem_cons, List.mem_flatMap] at hk ⊢
    right
    rcases hk with rfl | ⟨j, hj, hk⟩
    · have := kids_gt hw hc
      exact ⟨c, hc, pre_head (by omega) (mem_kids.1 hc).2.1⟩
    · have := kids_gt hw hj
      exact ⟨j, hj, pre_closed hw f j k c (by omega) hk hc⟩
theorem pre_all {ups : List Nat} (hw : WfUps ups) {f : Nat} (hf : ups.length ≤ f) : ∀ (j : Nat), j < ups.length → j ∈ pre ups f 0
  | 0, h => pre_head (by omega) h
  | j + 1, h => by
    have hu := hw (j + 1) ups[j + 1] (by omega) (List.getElem?_eq_getElem h)
    exact pre_closed hw f 0 _ (j + 1) (by omega) (pre_all hw hf ups[j + 1] (by omega)) (mem_kids.2 ⟨by omega, h, List.getElem?_eq_getElem h⟩)
termination_by j => j
/-- k is i, or above which i is. -/
inductive Anc (ups : List Nat) (i : Nat) : Nat → Prop
  | refl : Anc ups i i
  | step {k j : Nat} : Anc ups i k → j ∈ kids ups k → Anc ups i j
theorem Anc.le {ups : List Nat} (hw : WfUps ups) {i j : Nat} (h : Anc ups i j) : i ≤ j := by
  induction h with
  | refl => exact Nat.le_refl _
  | step _ hk ih => have := kids_gt hw hk; omega
theorem Anc.head {ups : List Nat} {i c j : Nat} (hc : c ∈ kids ups i) (h : Anc ups c j) : Anc ups i j := by
  induction h with
  | refl => exact .step .refl hc
  | step _ hk ih => exact .step ih hk
theorem pre_anc {ups : List Nat} : ∀ (f i j : Nat), j ∈ pre ups f i → Anc ups i j
  | 0, i, j, h => by simp [pre] at h
  | f + 1, i, j, h => by
    simp only [pre, List.mem_cons, List.mem_flatMap] at h
    rcases h with rfl | ⟨c, hc, hj⟩
    · exact .refl
    · exact (pre_anc f c j hj).head hc
/-- Two that are beneath one are not above the same. -/
theorem anc_kids {ups : List Nat} (hw : WfUps ups) {i c d j : Nat} (hc : c ∈ kids ups i) (hd : d ∈ kids ups i) (h : Anc ups c j) (k : Anc ups d j) : c = d := by
  have gc := kids_gt hw hc
  have gd := kids_gt hw hd
  induction h with
  | refl =>
    cases k with
    | refl => rfl
    | @step k' _ ha hk =>
      have e1 := (mem_kids.1 hk).2.2
      have e2 := (mem_kids.1 hc).2.2
      rw [e1] at e2
      obtain rfl : k' = i := Option.some.inj e2
      have := ha.le hw; omega
  | @step k' j' ha hk ih =>
    cases k with
    | refl =>
      have e1 := (mem_kids.1 hk).2.2
      have e2 := (mem_kids.1 hd).2.2
      rw [e1] at e2
      obtain rfl : k' = i := Option.some.inj e2
      have := ha.le hw; omega
    | @step k2 _ ha2 hk2 =>
      have e1 := (mem_kids.1 hk).2.2
      have e2 := (mem_kids.1 hk2).2.2
      rw [e1] at e2
      obtain rfl : k' = k2 := Option.some.inj e2
      exact ih ha2
theorem pre_nodup {ups : List Nat} (hw : WfUps ups) : ∀ (f i : Nat), i < ups.length → (pre ups f i).Nodup
  | 0, i, _ => by simp [pre]
  | f + 1, i, hi => by
    rw [pre, List.nodup_cons]
    constructor
    · intro h
      obtain ⟨c, hc, hj⟩ := List.mem_flatMap.1 h
      have := kids_gt hw hc
      have := pre_range hw f c i (mem_kids.1 hc).2.1 hj
      omega
    · unfold List.Nodup
      rw [List.pairwise_flatMap]
      constructor
      · intro c hc; exact pre_nodup hw f c (mem_kids.1 hc).2.1
      · have hs := kids_sorted ups i
        refine hs.imp_of_mem ?_
        intro c d hc hd hlt x hx y hy e
        subst e
        have := anc_kids hw hc hd (pre_anc f c x hx) (pre_anc f d x hy)
        omega
theorem pre_length {ups : List Nat} (hw : WfUps ups) (f i : Nat) (hi : i < ups.length) : (pre ups f i).length ≤ ups.length := by
  have := (pre_nodup hw f i hi).length_le_of_subset (l₂ := List.range ups.length) (fun j hj => List.mem_range.2 (pre_range hw f i j hi hj).2)
  simpa using this
theorem pre_full {ups : List Nat} (hw : WfUps ups) {f : Nat} (hf : ups.length ≤ f) (h0 : 0 < ups.length) : (pre ups f 0).length = ups.length := by
  refine Nat.le_antisymm (pre_length hw f 0 h0) ?_
  have := (List.nodup_range (n := ups.length)).length_le_of_subset (l₂ := pre ups f 0) (fun j hj => pre_all hw hf j (List.mem_range.1 hj))
  simpa using this
/-- Ahead of each number comes the one above it. -/
theorem pre_before {ups : List Nat} (hw : WfUps ups) : ∀ (f i : Nat) (A B : List Nat) (c : Nat), pre ups f i = A ++ c :: B → c = i ∨ ∃ u ∈ A, ups[c]? = some u
  | 0, i, A, B, c, h => by simp [pre] at h
  | f + 1, i, A, B, c, h => by
    rw [pre] at h
    cases A with
    | nil => simp at h; exact .inl h.1.symm
    | cons x A =>
      simp only [List.cons_append, List.cons.injEq] at h
      obtain ⟨rfl, h⟩ := h
      right
      have key : ∀ ks : List Nat, (∀ k ∈ ks, k ∈ kids ups i) → ∀ A, ks.flatMap (pre ups f) = A ++ c :: B → ups[c]? = some i ∨ ∃ u ∈ A, ups[c]? = some u := by
        intro ks
        induction ks with
        | nil => intro _ A h; simp at h
        | cons k ks ih =>
          intro hk A h
          rw [List.flatMap_cons] at h
          rw [List.append_eq_append_iff] at h
          rcases h with ⟨A', e1, e2⟩ | ⟨C', e1, e2⟩
          · rcases ih (fun k h => hk k (List.mem_cons_of_mem _ h)) A' e2 with h | ⟨u, hu, h⟩
            · exact .inl h
            · exact .inr ⟨u, by rw [e1]; simp [hu], h⟩
          · cases C' with
            | nil =>
              simp at e2
              rcases ih (fun k h => hk k (List.mem_cons_of_mem _ h)) [] (by simpa using e2.symm) with h | ⟨u, hu, h⟩
              · exact .inl h
              · simp at hu
            | cons y C' =>
              simp only [List.cons_append, List.cons.injEq] at e2
              obtain ⟨rfl, e2⟩ := e2
              rcases pre_before hw f k A C' c e1 with rfl | ⟨u, hu, h⟩
              · exact .inl (mem_kids.1 (hk c (by simp))).2.2
              · exact .inr ⟨u, hu, h⟩
      rcases key _ (fun k h => h) A h with h | ⟨u, hu, h⟩
      · exact ⟨i, by simp, h⟩
      · exact ⟨u, by simp [hu], h⟩
end Go.Proofs.YtmhfbdeeebbloaaDoor
