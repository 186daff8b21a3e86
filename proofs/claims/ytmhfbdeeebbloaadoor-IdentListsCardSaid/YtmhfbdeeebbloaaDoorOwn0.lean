/- Rows of structs that a call owns: their cells and stores, told by the structs. Nothing of the program. -/
import Derived.Test.YtmhfbdeeebbloaaDoorLib0
import Derived.Laws.OwnMore
namespace Go.Proofs.YtmhfbdeeebbloaaDoor
open Go.RowKit
section
variable {α β : Type} {enc : α → List β} {k : Nat}
theorem vflat_length (hk : ∀ x, (enc x).length = k) : ∀ xs : List α, (xs.flatMap enc).length = xs.length * k
  | [] => by simp
  | x :: xs => by rw [List.flatMap_cons, List.length_append, vflat_length hk xs, hk, List.length_cons, Nat.add_mul]; omega
theorem vflat_get? (hk : ∀ x, (enc x).length = k) : ∀ (xs : List α) (i j : Nat) (x : α), xs[i]? = some x → j < k → (xs.flatMap enc)[i * k + j]? = (enc x)[j]?
  | [], i, j, x, h, _ => by simp at h
  | y :: ys, 0, j, x, h, hj => by
    simp at h; subst h
    rw [List.flatMap_cons, List.getElem?_append_left (by rw [hk]; omega)]; simp
  | y :: ys, i + 1, j, x, h, hj => by
    simp at h
    rw [List.flatMap_cons, List.getElem?_append_right (by rw [hk, Nat.add_mul]; omega), hk, ← vflat_get? hk ys i j x h hj]
    congr 1; rw [Nat.add_mul]; omega
theorem vflat_set (hk : ∀ x, (enc x).length = k) {y : α} {u : β} {j : Nat} (hj : j < k) : ∀ (xs : List α) (i : Nat) (x : α), xs[i]? = some x → enc y = (enc x).set j u → (xs.flatMap enc).set (i * k + j) u = (xs.set i y).flatMap enc
  | [], i, x, h, _ => by simp at h
  | z :: zs, 0, x, h, he => by
    simp at h; subst h
    rw [List.flatMap_cons, List.set_cons_zero, List.flatMap_cons, he, List.set_append_left _ _ (by rw [hk]; omega)]
    simp
  | z :: zs, i + 1, x, h, he => by
    simp at h
    rw [List.flatMap_cons, List.set_cons_succ, List.flatMap_cons, List.set_append_right _ _ (by rw [hk, Nat.add_mul]; omega), hk, ← vflat_set hk hj zs i x h he]
    congr 2; rw [Nat.add_mul]; omega
end
section
variable {α : Type} {enc : α → List Value} {k : Nat} {w : World} {base g n cap : Nat} {e : TypeId} {xs : List α}
theorem row_cell (hk : ∀ x, (enc x).length = k) (hown : w.ownsRow base e k (.slice (some ⟨g, 0, none⟩) n cap) n (xs.flatMap enc)) {i j : Nat} {x : α} (hx : xs[i]? = some x) (hj : j < k) : w.cell? ⟨g, i * k + j, none⟩ = (enc x)[j]? := by
  have hl := hown.1
  rw [vflat_length hk] at hl
  have hi := (List.getElem?_eq_some_iff.1 hx).1
  have h1 : (i + 1) * k ≤ xs.length * k := Nat.mul_le_mul_right _ hi
  rw [Nat.add_mul] at h1
  rw [hown.cellAt _ (by omega), vflat_get? hk xs i j x hx hj]
theorem row_store (hk : ∀ x, (enc x).length = k) (hown : w.ownsRow base e k (.slice (some ⟨g, 0, none⟩) n cap) n (xs.flatMap enc)) {i j : Nat} {x y : α} {u : Value} (hx : xs[i]? = some x) (hj : j < k) (he : enc y = (enc x).set j u) :
    (w.setCell ⟨g, i * k + j, none⟩ u).ownsRow base e k (.slice (some ⟨g, 0, none⟩) n cap) n ((xs.set i y).flatMap enc) := by
  have := (hown.stored (i * k + j) u).1
  rwa [vflat_set hk hj xs i x hx he] at this
end
theorem aown_form {w : World} {base : Nat} {e : TypeId} {sz n : Nat} {v : Value} {xs : List Value} (h : w.ownsRow base e sz v n xs) :
    ∃ ao cap, v = .slice ao n cap ∧ (n = 0 ∧ ao = none ∨ ∃ g, ao = some ⟨g, 0, none⟩ ∧ base ≤ g ∧ g < w.heap.size) := by
  have hlt := h.lt
  rcases h.2 with ⟨rfl, rfl⟩ | ⟨g, cap, cur, rfl, _⟩
  · exact ⟨none, 0, rfl, .inl ⟨rfl, rfl⟩⟩
  · exact ⟨_, cap, rfl, .inr ⟨g, rfl, hlt g rfl⟩⟩
theorem aown_ext {w w' : World} {base base' : Nat} {e : TypeId} {sz n : Nat} {v : Value} {xs : List Value} (h : w.ownsRow base e sz v n xs) (hb : ∀ g, v.ownBlock = some g → w'.heap[g]? = w.heap[g]?) (hB : base' ≤ base) : w'.ownsRow base' e sz v n xs := by
  refine ⟨h.1, ?_⟩
  rcases h.2 with h2 | ⟨g, cap, cur, rfl, h3, hg, h4⟩
  · exact .inl h2
  · exact .inr ⟨g, cap, cur, rfl, Nat.le_trans hB h3, by rw [hb g rfl]; exact hg, h4⟩
/-- Nothing has turned but the blocks in T; blocks may have been made. -/
structure Only (T : Nat → Prop) (w w' : World) : Prop where
  os : w'.os = w.os
  tape : w'.tape = w.tape
  output : w'.output = w.output
  size : w.heap.size ≤ w'.heap.size
  block : ∀ k, k < w.heap.size → ¬ T k → w'.heap[k]? = w.heap[k]?
theorem Only.refl (T : Nat → Prop) (w : World) : Only T w w := ⟨rfl, rfl, rfl, Nat.le_refl _, fun _ _ _ => rfl⟩
theorem Only.of {T : Nat → Prop} {w w' : World} (h : Below w.heap.size w w') : Only T w w' := ⟨h.os, h.tape, h.output, h.size, fun k hk _ => h.block k hk⟩
theorem Only.trans {T : Nat → Prop} {a b c : World} (h : Only T a b) (k : Only T b c) : Only T a c :=
  ⟨k.os.trans h.os, k.tape.trans h.tape, k.output.trans h.output, Nat.le_trans h.size k.size, fun j hj hn => (k.block j (Nat.lt_of_lt_of_le hj h.size) hn).trans (h.block j hj hn)⟩
theorem Only.wide {T T' : Nat → Prop} {a b : World} (h : Only T a b) (hT : ∀ k, k < a.heap.size → T k → T' k) : Only T' a b := ⟨h.os, h.tape, h.output, h.size, fun k hk hn => h.block k hk (fun ht => hn (hT k hk ht))⟩
theorem Only.below {T : Nat → Prop} {B : Nat} {a b : World} (h : Only T a b) (hB : B ≤ a.heap.size) (hT : ∀ k, T k → B ≤ k) : Below B a b :=
  ⟨h.os, h.tape, h.output, h.size, fun k hk => h.block k (by omega) (fun ht => by have := hT k ht; omega)⟩
theorem Only.alloc {T : Nat → Prop} {a b : World} (h : Only T a b) (o : Obj) : Only T a (b.alloc o) := h.trans (.of (ext_alloc (Below.refl _ _) o))
theorem Only.set {T : Nat → Prop} {a b : World} (h : Only T a b) {p : Addr} (hp : p.block < a.heap.size → T p.block) (u : Value) : Only T a (b.setCell p u) :=
  ⟨h.os, h.tape, h.output, by simpa using h.size, fun k hk hn => (Below.heap_setCell b p u k (fun e => hn (by rw [e]; exact hp (by omega)))).trans (h.block k hk hn)⟩
theorem Only.grown {T : Nat → Prop} {a b c : World} {row : Option Nat} (h : Only T a b) (hg : b.grownBy c row) (hr : ∀ k, row = some k → k < a.heap.size → T k) : Only T a c :=
  ⟨hg.os.trans h.os, hg.tape.trans h.tape, hg.output.trans h.output, Nat.le_trans h.size hg.size, fun k hk hn => (hg.block k (Nat.lt_of_lt_of_le hk h.size) (fun e => hn (hr k e.symm hk))).trans (h.block k hk hn)⟩
end Go.Proofs.YtmhfbdeeebbloaaDoor
